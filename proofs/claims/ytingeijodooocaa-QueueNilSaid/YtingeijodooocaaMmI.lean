/- Chapter 14's interval heap: Insert (gen14c.py). -/
import Derived.Test.YtingeijodooocaaMmR
namespace Go.Proofs.Ytingeijodooocaa
open Go.RowKit
variable {B H : Nat} {w w' : World} {va vk vs : Value} {S T : Mm}
/-- The heap in memory, its three rows of lengths of their own. -/
structure MmG (B : Nat) (w : World) (H : Nat) (va vk vs : Value) (n mk ms : Nat) (e s : Nat → Nat) (k : Nat → K3) : Prop where
  hB : B ≤ H
  blk : w.heap[H]? = some (.cells #[va, vk, vs] 91 (0, 0))
  ra : w.ownsRow B 3 1 va n (flatR 1 intc (li e n))
  rk : w.ownsRow B 69 3 vk mk (flatR 3 keyc (li k mk))
  rs : w.ownsRow B 3 1 vs ms (flatR 1 intc (li s ms))
  hH : ∀ b, (va.ownBlock = some b ∨ vk.ownBlock = some b ∨ vs.ownBlock = some b) → b ≠ H
  ap : ∀ b, va.ownBlock = some b → vk.ownBlock ≠ some b ∧ vs.ownBlock ≠ some b
  aq : ∀ b, vk.ownBlock = some b → vs.ownBlock ≠ some b
theorem MmV.toG (h : MmV B w H va vk vs S) : MmG B w H va vk vs S.n S.m S.m S.e S.s S.k := ⟨h.hB, h.blk, h.ra, h.rk, h.rs, h.hH, h.ap, h.aq⟩
variable {n mk ms : Nat} {e s : Nat → Nat} {k : Nat → K3}
theorem MmG.toV {m : Nat} (h : MmG B w H va vk vs n m m e s k) : MmV B w H va vk vs ⟨n, m, e, s, k⟩ := ⟨h.hB, h.blk, h.ra, h.rk, h.rs, h.hH, h.ap, h.aq⟩
theorem MmG.foot (h : MmG B w H va vk vs n mk ms e s k) {b : Nat} (hb : FootM H va vk vs b) : B ≤ b ∧ b < w.heap.size := by
  rcases hb with q | q | q | q
  · subst q; exact ⟨h.hB, lt_of_at h.blk⟩
  · exact h.ra.lt b q
  · exact h.rk.lt b q
  · exact h.rs.lt b q
theorem MmG.below (h : MmG B w H va vk vs n mk ms e s k) (hb : Below w.heap.size w w') : MmG B w' H va vk vs n mk ms e s k :=
  ⟨h.hB, (hb.block H (lt_of_at h.blk)).trans h.blk, rowR_below h.ra hb, rowR_below h.rk hb, rowR_below h.rs hb, h.hH, h.ap, h.aq⟩
theorem MmG.head (h : MmG B w H va vk vs n mk ms e s k) : w.cell? ⟨H, 0, none⟩ = some va ∧ w.cell? ⟨H, 1, none⟩ = some vk ∧ w.cell? ⟨H, 2, none⟩ = some vs :=
  ⟨(blk_cell h.blk 0).trans rfl, (blk_cell h.blk 1).trans rfl, (blk_cell h.blk 2).trans rfl⟩
/-- Row va grows by one. -/
theorem MmG.put0 {u : Value} {f' : Nat → Nat} (h : MmG B w H va vk vs n mk ms e s k) (hG : w.grownBy w' va.ownBlock) (hr : w'.ownsRow B 3 1 u (n + 1) (flatR 1 intc (li f' (n + 1)))) (hat : ∀ g, u.ownBlock = some g → va.ownBlock = some g ∨ g = w.heap.size) :
    MmG B (w'.setCell ⟨H, 0, none⟩ u) H u vk vs (n + 1) mk ms f' s k := by
  have hlH := lt_of_at h.blk
  have hHv : va.ownBlock ≠ some H := fun e => h.hH H (.inl e) rfl
  have hbl : w'.heap[H]? = some (.cells #[va, vk, vs] 91 (0, 0)) := (hG.block H hlH (fun e => hHv e.symm)).trans h.blk
  have ho : ∀ b, b ≠ H → (w'.setCell ⟨H, 0, none⟩ u).heap[b]? = w'.heap[b]? := fun b hb => heap_setCell_other w' _ b _ (fun e => hb e)
  have huH : ∀ b, u.ownBlock = some b → b ≠ H := fun b q => by
    rcases hat b q with x | x
    · exact h.hH b (.inl x)
    · omega
  have kk : (w'.setCell ⟨H, 0, none⟩ u).ownsRow B 69 3 vk mk (flatR 3 keyc (li k mk)) := rowR_kept h.rk fun b q => by
    rw [ho b (h.hH b ((fun x => .inr (.inl x)) q))]
    exact hG.block b (h.rk.lt b q).2 (fun e2 => (h.ap b e2.symm).1 q)
  have dk : ∀ b, vk.ownBlock = some b → u.ownBlock ≠ some b := fun b q e1 => by
    rcases hat b e1 with e2 | e2
    · exact (h.ap b e2).1 q
    · have := (h.rk.lt b q).2; omega
  have ks : (w'.setCell ⟨H, 0, none⟩ u).ownsRow B 3 1 vs ms (flatR 1 intc (li s ms)) := rowR_kept h.rs fun b q => by
    rw [ho b (h.hH b ((fun x => .inr (.inr x)) q))]
    exact hG.block b (h.rs.lt b q).2 (fun e2 => (h.ap b e2.symm).2 q)
  have ds : ∀ b, vs.ownBlock = some b → u.ownBlock ≠ some b := fun b q e1 => by
    rcases hat b e1 with e2 | e2
    · exact (h.ap b e2).2 q
    · have := (h.rs.lt b q).2; omega
  refine ⟨h.hB, at_of ⟨_, heap_setCell_same w' H 0 _ _ _ hbl, by simp⟩, rowR_kept hr fun b q => ho b (huH b q), kk, ks, ?_, fun b q => ⟨fun q2 => dk b q2 q, fun q2 => ds b q2 q⟩, h.aq⟩
  exact fun b q => by
    rcases q with q | q | q
    · exact huH b q
    · exact h.hH b ((fun x => .inr (.inl x)) q)
    · exact h.hH b ((fun x => .inr (.inr x)) q)
/-- Row vk grows by one. -/
theorem MmG.put1 {u : Value} {f' : Nat → K3} (h : MmG B w H va vk vs n mk ms e s k) (hG : w.grownBy w' vk.ownBlock) (hr : w'.ownsRow B 69 3 u (mk + 1) (flatR 3 keyc (li f' (mk + 1)))) (hat : ∀ g, u.ownBlock = some g → vk.ownBlock = some g ∨ g = w.heap.size) :
    MmG B (w'.setCell ⟨H, 1, none⟩ u) H va u vs n (mk + 1) ms e s f' := by
  have hlH := lt_of_at h.blk
  have hHv : vk.ownBlock ≠ some H := fun e => h.hH H ((fun x => .inr (.inl x)) e) rfl
  have hbl : w'.heap[H]? = some (.cells #[va, vk, vs] 91 (0, 0)) := (hG.block H hlH (fun e => hHv e.symm)).trans h.blk
  have ho : ∀ b, b ≠ H → (w'.setCell ⟨H, 1, none⟩ u).heap[b]? = w'.heap[b]? := fun b hb => heap_setCell_other w' _ b _ (fun e => hb e)
  have huH : ∀ b, u.ownBlock = some b → b ≠ H := fun b q => by
    rcases hat b q with x | x
    · exact h.hH b ((fun x => .inr (.inl x)) x)
    · omega
  have ka : (w'.setCell ⟨H, 1, none⟩ u).ownsRow B 3 1 va n (flatR 1 intc (li e n)) := rowR_kept h.ra fun b q => by
    rw [ho b (h.hH b (.inl q))]
    exact hG.block b (h.ra.lt b q).2 (fun e2 => (h.ap b q).1 e2.symm)
  have da : ∀ b, va.ownBlock = some b → u.ownBlock ≠ some b := fun b q e1 => by
    rcases hat b e1 with e2 | e2
    · exact (h.ap b q).1 e2
    · have := (h.ra.lt b q).2; omega
  have ks : (w'.setCell ⟨H, 1, none⟩ u).ownsRow B 3 1 vs ms (flatR 1 intc (li s ms)) := rowR_kept h.rs fun b q => by
    rw [ho b (h.hH b ((fun x => .inr (.inr x)) q))]
    exact hG.block b (h.rs.lt b q).2 (fun e2 => h.aq b e2.symm q)
  have ds : ∀ b, vs.ownBlock = some b → u.ownBlock ≠ some b := fun b q e1 => by
    rcases hat b e1 with e2 | e2
    · exact h.aq b e2 q
    · have := (h.rs.lt b q).2; omega
  refine ⟨h.hB, at_of ⟨_, heap_setCell_same w' H 1 _ _ _ hbl, by simp⟩, ka, rowR_kept hr fun b q => ho b (huH b q), ks, ?_, fun b q => ⟨da b q, (h.ap b q).2⟩, fun b q q2 => ds b q2 q⟩
  exact fun b q => by
    rcases q with q | q | q
    · exact h.hH b (.inl q)
    · exact huH b q
    · exact h.hH b ((fun x => .inr (.inr x)) q)
/-- Row vs grows by one. -/
theorem MmG.put2 {u : Value} {f' : Nat → Nat} (h : MmG B w H va vk vs n mk ms e s k) (hG : w.grownBy w' vs.ownBlock) (hr : w'.ownsRow B 3 1 u (ms + 1) (flatR 1 intc (li f' (ms + 1)))) (hat : ∀ g, u.ownBlock = some g → vs.ownBlock = some g ∨ g = w.heap.size) :
    MmG B (w'.setCell ⟨H, 2, none⟩ u) H va vk u n mk (ms + 1) e f' k := by
  have hlH := lt_of_at h.blk
  have hHv : vs.ownBlock ≠ some H := fun e => h.hH H ((fun x => .inr (.inr x)) e) rfl
  have hbl : w'.heap[H]? = some (.cells #[va, vk, vs] 91 (0, 0)) := (hG.block H hlH (fun e => hHv e.symm)).trans h.blk
  have ho : ∀ b, b ≠ H → (w'.setCell ⟨H, 2, none⟩ u).heap[b]? = w'.heap[b]? := fun b hb => heap_setCell_other w' _ b _ (fun e => hb e)
  have huH : ∀ b, u.ownBlock = some b → b ≠ H := fun b q => by
    rcases hat b q with x | x
    · exact h.hH b ((fun x => .inr (.inr x)) x)
    · omega
  have ka : (w'.setCell ⟨H, 2, none⟩ u).ownsRow B 3 1 va n (flatR 1 intc (li e n)) := rowR_kept h.ra fun b q => by
    rw [ho b (h.hH b (.inl q))]
    exact hG.block b (h.ra.lt b q).2 (fun e2 => (h.ap b q).2 e2.symm)
  have da : ∀ b, va.ownBlock = some b → u.ownBlock ≠ some b := fun b q e1 => by
    rcases hat b e1 with e2 | e2
    · exact (h.ap b q).2 e2
    · have := (h.ra.lt b q).2; omega
  have kk : (w'.setCell ⟨H, 2, none⟩ u).ownsRow B 69 3 vk mk (flatR 3 keyc (li k mk)) := rowR_kept h.rk fun b q => by
    rw [ho b (h.hH b ((fun x => .inr (.inl x)) q))]
    exact hG.block b (h.rk.lt b q).2 (fun e2 => h.aq b q e2.symm)
  have dk : ∀ b, vk.ownBlock = some b → u.ownBlock ≠ some b := fun b q e1 => by
    rcases hat b e1 with e2 | e2
    · exact h.aq b q e2
    · have := (h.rk.lt b q).2; omega
  refine ⟨h.hB, at_of ⟨_, heap_setCell_same w' H 2 _ _ _ hbl, by simp⟩, ka, kk, rowR_kept hr fun b q => ho b (huH b q), ?_, fun b q => ⟨(h.ap b q).1, da b q⟩, fun b q => dk b q⟩
  exact fun b q => by
    rcases q with q | q | q
    · exact h.hH b (.inl q)
    · exact h.hH b ((fun x => .inr (.inl x)) q)
    · exact huH b q
theorem recI : RecT 3 88 1 8 Try.prog := recT_of Try.underlying88 (by kernel_rfl) (by kernel_rfl)
theorem recK : RecT 69 89 3 24 Try.prog := recT_of Try.underlying89 (by kernel_rfl) (by kernel_rfl)
theorem intc_one : ∀ x c, (intc x c).oneCell' = true := fun _ _ => rfl
theorem keyc_one : ∀ x c, (keyc x c).oneCell' = true := fun x c => by rcases c with _ | _ | c <;> rfl
/-- The heap with an entry more, not yet brought up. -/
def Mm.put (S : Mm) (x : K3) : Mm := ⟨S.n + 1, S.m + 1, upf S.e S.n S.m, upf S.s S.m (S.n + 1), upf S.k S.m x⟩
theorem Lnk.put (h : Lnk S) (hm : S.m < 1000000) (x : K3) : Lnk (S.put x) := by
  have hnb := h.nb
  refine ⟨by show S.m + 1 ≤ 1000000; omega, by show S.n + 1 ≤ S.m + 1; omega, fun i hi => ?_, fun y hy hs => ?_⟩
  · show upf S.e S.n S.m i < S.m + 1 ∧ upf S.s S.m (S.n + 1) (upf S.e S.n S.m i) = i + 1
    have hi' : i < S.n + 1 := hi
    unfold upf
    by_cases q : i = S.n
    · rw [if_pos q, if_pos rfl]; exact ⟨by omega, by omega⟩
    · rw [if_neg q]
      have ai := h.at_ i (by omega)
      rw [if_neg (by omega)]
      exact ⟨by omega, ai.2⟩
  · have hs' : upf S.s S.m (S.n + 1) y ≠ 0 := hs
    have hy' : y < S.m + 1 := hy
    show upf S.s S.m (S.n + 1) y ≤ S.n + 1 ∧ upf S.e S.n S.m (upf S.s S.m (S.n + 1) y - 1) = y
    unfold upf at hs' ⊢
    by_cases q : y = S.m
    · rw [if_pos q, if_pos (by omega)]; exact ⟨by omega, q.symm⟩
    · rw [if_neg q] at hs' ⊢
      obtain ⟨g1, g2⟩ := h.gone y (by omega) hs'
      rw [if_neg (by omega)]
      exact ⟨by omega, g2⟩
theorem Ivl.cong {L L' : Nat → Nat → Prop} {n : Nat} {e : Nat → Nat} (h : Ivl L n e) (hc : ∀ i j, i < n → j < n → L (e i) (e j) → L' (e i) (e j)) : Ivl L' n e := by
  refine ⟨fun a ha => hc _ _ (by omega) ha (h.pr a ha), fun j hj hjn => ?_, fun j hj hjn => ?_⟩
  · have := lowp_lt hj
    exact hc _ _ (by omega) hjn (h.lo j hj hjn)
  · have := lowp_lt hj
    exact hc _ _ hjn (by omega) (h.hi j hj hjn)
theorem put_ivl (hl : Lnk S) (h : Ivl (LtM S.k) S.n S.e) (x : K3) : Hole (LtM (S.put x).k) (S.put x).n (S.put x).e S.n := by
  have h1 : Ivl (LtM (upf S.k S.m x)) S.n S.e := h.cong fun i j hi hj q => by
    rw [ltM_iff] at q ⊢
    have a := (hl.at_ i hi).1
    have b := (hl.at_ j hj).1
    have e1 : upf S.k S.m x (S.e i) = S.k (S.e i) := by unfold upf; rw [if_neg (by omega)]
    have e2 : upf S.k S.m x (S.e j) = S.k (S.e j) := by unfold upf; rw [if_neg (by omega)]
    rw [e1, e2]; exact q
  exact h1.more fun k hk => by show upf S.e S.n S.m k = S.e k; unfold upf; rw [if_neg (by omega)]
set_option maxRecDepth 20000 in
set_option maxHeartbeats 8000000 in
theorem minsert_g {x : K3} (h : MmV B w H va vk vs S) (hl : Lnk S) (iv : Ivl (LtM S.k) S.n S.e) (hm : S.m < 1000000) :
    Calls Try.prog 24 #[.pointer (some ⟨H, 0, none⟩), .agg #[.int .i64 x.1, .int .i64 x.2.1, .int .i64 x.2.2]] w fun e w' => e = .returned (.tuple #[.int .i64 S.m, .int .i64 0]) ∧ ∃ va' vk' vs' T, MmV B w' H va' vk' vs' T ∧ Lnk T ∧ Ivl (LtM T.k) T.n T.e ∧ Kin (S.put x) T ∧ (∀ b, FootM H va' vk' vs' b → FootM H va vk vs b ∨ w.heap.size ≤ b) ∧ Tur (FootM H va vk vs) w w' := by
  have HH := hid h.toG
  have HL := hid hl
  have HIV := hid iv
  have HM := hid hm
  have hnm := hl.nb
  obtain ⟨A1, cap1, rfl⟩ := rowR_shape h.rk
  obtain ⟨A0, cap0, rfl⟩ := rowR_shape h.ra
  obtain ⟨A2, cap2, rfl⟩ := rowR_shape h.rs
  have c1 := h.head.2.1
  have hlH := h.ltH
  have hBw : B ≤ w.heap.size := Nat.le_trans h.hB (Nat.le_of_lt hlH)
  have hml : ¬ ((1048576 : Int) ≤ (S.m : Int)) := by omega
  obtain ⟨x0, x1, x2⟩ := x
  simp only
  have HN := hid (show S.n ≤ S.m from hnm)
  clear h hl iv hm hnm
  go_enter Try.func24, Try.ntmps24
  go_upto_region 6 with fail
  refine wp_name ?_
  intro w2 hw2
  have X2 : w2.heap[w.heap.size]? = some (.cells #[.int .i64 x0, .int .i64 x1, .int .i64 x2] 69 (0, 0)) := by rw [hw2]; exact (by (repeat (first | (with_reducible assumption) | (with_reducible exact alloc_at _ _) | ((with_reducible apply alloc_at'); (simp; done)) | (with_reducible apply alloc_at_lt) | (with_reducible apply heap_drew_at) | (with_reducible apply heap_drewN_at) | (with_reducible apply heap_setCell_same) | ((with_reducible apply heap_set_ne); (first | omega | (dsimp only; omega) | (simp; done) | (simp; omega))) | (with_reducible apply setRow_at) | ((with_reducible apply setRow_ne); (first | omega | (dsimp only; omega) | (simp; done) | (simp; omega))))))
  have B2 : Below w.heap.size w w2 := by rw [hw2]; exact (by repeat (first | with_reducible assumption | with_reducible exact Below.refl _ _ | with_reducible refine Below.drew ?_ | with_reducible refine below_drewN ?_ _ | with_reducible refine below_alloc ?_ _ | with_reducible refine Below.alloc ?_ (by first | omega | (simp; done) | (simp; omega)) _ | with_reducible refine Below.setCell ?_ (by first | omega | (simp; done) | (simp; omega)) _ | with_reducible refine below_setRow ?_ (by first | omega | (simp; done) | (simp; omega)) _))
  clear hw2 c1 hml
  have H2 := HH.out.below B2
  have hl2 := lt_of_at H2.blk
  have B3 : Below w2.heap.size w2 (w2.alloc (.cells #[.int .i64 x0, .int .i64 x1, .int .i64 x2] 69)).drew := (by repeat (first | with_reducible assumption | with_reducible exact Below.refl _ _ | with_reducible refine Below.drew ?_ | with_reducible refine below_drewN ?_ _ | with_reducible refine below_alloc ?_ _ | with_reducible refine Below.alloc ?_ (by first | omega | (simp; done) | (simp; omega)) _ | with_reducible refine Below.setCell ?_ (by first | omega | (simp; done) | (simp; omega)) _ | with_reducible refine below_setRow ?_ (by first | omega | (simp; done) | (simp; omega)) _))
  have H3 := H2.below B3
  obtain ⟨g1, cp1, w4, happ, hown, hG4, hat, hgl, hb4⟩ := rowR_app (m := [(x0, x1, x2)]) (f := keyc) recK (by omega) keyc_one H3.rk (by have := HM.out; simp only [List.length_singleton]; omega) (by have := HM.out; simp only [List.length_singleton]; omega) (by have := B3.size; have := B2.size; omega) ⟨w2.heap.size, 0, none⟩ 1 (by simp) (World.news_of_block (heap_drew_at (alloc_at w2 _)))
  have e1 : li S.k S.m ++ [(x0, x1, x2)] = li (upf S.k S.m (x0, x1, x2)) (S.m + 1) := li_more _ _ _
  rw [e1] at hown
  simp only [List.length_singleton] at happ hown
  have H5 := H3.put1 (u := .slice (some ⟨g1, 0, none⟩) (S.m + 1) cp1) hG4 hown (fun b q => by cases q; exact hat)
  have T5 : Tur (FootM H (.slice A0 S.n cap0) (.slice A1 S.m cap1) (.slice A2 S.m cap2)) w (w4.setCell ⟨H, 1, none⟩ (.slice (some ⟨g1, 0, none⟩) (S.m + 1) cp1)) :=
    ((Tur.of_below (B2.trans (B3.mono B2.size))).then (Tur.of_grown hG4 (fun b e => .inl (.inr (.inr (.inl e)))))).then (Tur.set _ (.inl (.inl rfl)))
  have F5 : Hid (∀ b, FootM H (.slice A0 S.n cap0) (.slice (some ⟨g1, 0, none⟩) (S.m + 1) cp1) (.slice A2 S.m cap2) b → FootM H (.slice A0 S.n cap0) (.slice A1 S.m cap1) (.slice A2 S.m cap2) b ∨ w.heap.size ≤ b) := by
    rintro b (q | q | q | q)
    · exact .inl (.inl q)
    · exact .inl (.inr (.inl q))
    · cases q
      rcases hat with q | q
      · exact .inl (.inr (.inr (.inl q)))
      · right; show w.heap.size ≤ g1; have := B3.size; have := B2.size; omega
    · exact .inl (.inr (.inr (.inr q)))
  have d1 : w2.cell? ⟨H, 1, none⟩ = some (.slice A1 S.m cap1) := H2.head.2.1
  have y0 : w2.cell? ⟨w.heap.size, 0, none⟩ = some (.int .i64 x0) := (blk_cell X2 0).trans rfl
  have y1 : w2.cell? ⟨w.heap.size, 1, none⟩ = some (.int .i64 x1) := (blk_cell X2 1).trans rfl
  have y2 : w2.cell? ⟨w.heap.size, 2, none⟩ = some (.int .i64 x2) := (blk_cell X2 2).trans rfl
  have l2 := lt_of_at X2
  have H4b : w4.heap[H]? = w2.heap[H]? := (hG4.block H (Nat.lt_of_lt_of_le hl2 B3.size) (fun e => H3.hH H (.inr (.inl e.symm)) rfl)).trans (B3.block H hl2)
  have d4 : w4.cell? ⟨H, 1, none⟩ = some (.slice A1 S.m cap1) := (blk_cell (H4b.trans H2.blk) 1).trans rfl
  have f4 := blk_free (H4b.trans H2.blk)
  have HAPP := hid happ
  have HH5 := hid H5
  have HT5 := hid T5
  clear happ hown hG4 hat hgl hb4 H5 T5 H3 H2 B3 H4b X2 e1 B2
  go_region_law (refine step_append_eq rfl (.tmp 26) (.tmp 28) 89 rfl (v := .slice A1 S.m cap1) (y := .slice (some ⟨w2.heap.size, 0, none⟩) 1 1) (by simp [Act.eval]) (by simp [Act.eval]) HAPP.out ?_)
  all_goals
    clear y0 y1 y2 d1 d4 f4 l2 hl2 HAPP
    obtain ⟨w5, hw5⟩ : ∃ w5, w5 = w4.setCell ⟨H, 1, none⟩ (.slice (some ⟨g1, 0, none⟩) (S.m + 1) cp1) := ⟨_, rfl⟩
    rw [← hw5] at HH5 HT5 ⊢
    clear hw5
    obtain ⟨N, hN⟩ : ∃ N, N = S.n + 1 := ⟨_, rfl⟩
    have h5 := HH5.out
    have l5 := lt_of_at h5.blk
    have b5 : Below w5.heap.size w5 (w5.alloc (.cells #[.int .i64 (S.m : Nat)] 3)) := (by repeat (first | with_reducible assumption | with_reducible exact Below.refl _ _ | with_reducible refine Below.drew ?_ | with_reducible refine below_drewN ?_ _ | with_reducible refine below_alloc ?_ _ | with_reducible refine Below.alloc ?_ (by first | omega | (simp; done) | (simp; omega)) _ | with_reducible refine Below.setCell ?_ (by first | omega | (simp; done) | (simp; omega)) _ | with_reducible refine below_setRow ?_ (by first | omega | (simp; done) | (simp; omega)) _))
    have h6 := h5.below b5
    have hB5 : w.heap.size ≤ w5.heap.size := HT5.out.size
    obtain ⟨g2, cp2, w7, happ, hown, hG7, hat, hgl, hb7⟩ := rowR_app (m := [S.m]) (f := intc) recI (by omega) intc_one h6.ra (by have := HM.out; have := HN.out; simp only [List.length_singleton]; omega) (by have := HM.out; have := HN.out; simp only [List.length_singleton]; omega) (by have := b5.size; omega) ⟨w5.heap.size, 0, none⟩ 1 (by simp) (World.news_of_block (alloc_at w5 _))
    have e1 : li S.e S.n ++ [S.m] = li (upf S.e S.n S.m) (S.n + 1) := li_more _ _ _
    rw [e1] at hown
    simp only [List.length_singleton] at happ hown
    have H8 := h6.put0 (u := .slice (some ⟨g2, 0, none⟩) (S.n + 1) cp2) hG7 hown (fun b q => by cases q; exact hat)
    have T8 : Tur (FootM H (.slice A0 S.n cap0) (.slice (some ⟨g1, 0, none⟩) (S.m + 1) cp1) (.slice A2 S.m cap2)) w5 (w7.setCell ⟨H, 0, none⟩ (.slice (some ⟨g2, 0, none⟩) (S.n + 1) cp2)) :=
      ((Tur.of_below b5).then (Tur.of_grown hG7 (fun b e => .inl (.inr (.inl e))))).then (Tur.set _ (.inl (.inl rfl)))
    have HT8 : Hid (Tur (FootM H (.slice A0 S.n cap0) (.slice A1 S.m cap1) (.slice A2 S.m cap2)) w (w7.setCell ⟨H, 0, none⟩ (.slice (some ⟨g2, 0, none⟩) (S.n + 1) cp2))) := HT5.out.trans T8 (fun b q => F5.out b q)
    have F8 : Hid (∀ b, FootM H (.slice (some ⟨g2, 0, none⟩) (S.n + 1) cp2) (.slice (some ⟨g1, 0, none⟩) (S.m + 1) cp1) (.slice A2 S.m cap2) b → FootM H (.slice A0 S.n cap0) (.slice A1 S.m cap1) (.slice A2 S.m cap2) b ∨ w.heap.size ≤ b) := by
      rintro b (q | q | q | q)
      · exact .inl (.inl q)
      · cases q
        rcases hat with q | q
        · exact .inl (.inr (.inl q))
        · right; show w.heap.size ≤ g2; have := b5.size; omega
      · exact F5.out b (.inr (.inr (.inl q)))
      · exact .inl (.inr (.inr (.inr q)))
    have d0 : w5.cell? ⟨H, 0, none⟩ = some (.slice A0 S.n cap0) := h5.head.1
    have H7b : w7.heap[H]? = w5.heap[H]? := (hG7.block H (Nat.lt_of_lt_of_le l5 b5.size) (fun e => h6.hH H (.inl e.symm) rfl)).trans (b5.block H l5)
    have d7 : w7.cell? ⟨H, 0, none⟩ = some (.slice A0 S.n cap0) := (blk_cell (H7b.trans h5.blk) 0).trans rfl
    have f7 := blk_free (H7b.trans h5.blk)
    have HAPP := hid happ
    have HH8 := hid H8
    rw [← hN] at HAPP HH8 HT8 F8
    have HNE := hid hN
    clear happ hown hG7 hat hgl hb7 H8 T8 h6 b5 h5 H7b e1 HH5 hN
    go_wp2_with (first | (at_builtin; refine wpList_append_eq rfl _ _ _ rfl rfl rfl HAPP.out ?_))
    go_upto_region 8 with fail
    refine wp_name ?_
    intro w8 hw8
    rw [← hw8] at HH8 HT8
    clear hw8 d0 d7 f7 l5 HAPP
    have h8 := HH8.out
    have l8 := lt_of_at h8.blk
    have b8 : Below w8.heap.size w8 (w8.alloc (.cells #[.int .i64 (N : Nat)] 3)).drew := (by repeat (first | with_reducible assumption | with_reducible exact Below.refl _ _ | with_reducible refine Below.drew ?_ | with_reducible refine below_drewN ?_ _ | with_reducible refine below_alloc ?_ _ | with_reducible refine Below.alloc ?_ (by first | omega | (simp; done) | (simp; omega)) _ | with_reducible refine Below.setCell ?_ (by first | omega | (simp; done) | (simp; omega)) _ | with_reducible refine below_setRow ?_ (by first | omega | (simp; done) | (simp; omega)) _))
    have h9 := h8.below b8
    have hB8 : w.heap.size ≤ w8.heap.size := HT8.out.size
    obtain ⟨g3, cp3, w10, happ, hown, hG10, hat, hgl, hb10⟩ := rowR_app (m := [N]) (f := intc) recI (by omega) intc_one h9.rs (by have := HM.out; have := HN.out; simp only [List.length_singleton]; omega) (by have := HM.out; have := HN.out; simp only [List.length_singleton]; omega) (by have := b8.size; omega) ⟨w8.heap.size, 0, none⟩ 1 (by simp) (World.news_of_block (heap_drew_at (alloc_at w8 _)))
    have e1 : li S.s S.m ++ [N] = li (upf S.s S.m N) (S.m + 1) := li_more _ _ _
    rw [e1] at hown
    simp only [List.length_singleton] at happ hown
    have H11 := h9.put2 (u := .slice (some ⟨g3, 0, none⟩) (S.m + 1) cp3) hG10 hown (fun b q => by cases q; exact hat)
    have T11 : Tur (FootM H (.slice (some ⟨g2, 0, none⟩) N cp2) (.slice (some ⟨g1, 0, none⟩) (S.m + 1) cp1) (.slice A2 S.m cap2)) w8 (w10.setCell ⟨H, 2, none⟩ (.slice (some ⟨g3, 0, none⟩) (S.m + 1) cp3)) :=
      ((Tur.of_below b8).then (Tur.of_grown hG10 (fun b e => .inl (.inr (.inr (.inr e)))))).then (Tur.set _ (.inl (.inl rfl)))
    have HT11 : Hid (Tur (FootM H (.slice A0 S.n cap0) (.slice A1 S.m cap1) (.slice A2 S.m cap2)) w (w10.setCell ⟨H, 2, none⟩ (.slice (some ⟨g3, 0, none⟩) (S.m + 1) cp3))) := HT8.out.trans T11 (fun b q => F8.out b q)
    have F11 : Hid (∀ b, FootM H (.slice (some ⟨g2, 0, none⟩) N cp2) (.slice (some ⟨g1, 0, none⟩) (S.m + 1) cp1) (.slice (some ⟨g3, 0, none⟩) (S.m + 1) cp3) b → FootM H (.slice A0 S.n cap0) (.slice A1 S.m cap1) (.slice A2 S.m cap2) b ∨ w.heap.size ≤ b) := by
      rintro b (q | q | q | q)
      · exact .inl (.inl q)
      · exact F8.out b (.inr (.inl q))
      · exact F8.out b (.inr (.inr (.inl q)))
      · cases q
        rcases hat with q | q
        · exact .inl (.inr (.inr (.inr q)))
        · right; show w.heap.size ≤ g3; have := b8.size; omega
    have d0 : w8.cell? ⟨H, 0, none⟩ = some (.slice (some ⟨g2, 0, none⟩) N cp2) := h8.head.1
    have d2 : w8.cell? ⟨H, 2, none⟩ = some (.slice A2 S.m cap2) := h8.head.2.2
    have H10b : w10.heap[H]? = w8.heap[H]? := (hG10.block H (Nat.lt_of_lt_of_le l8 b8.size) (fun e => h9.hH H (.inr (.inr e.symm)) rfl)).trans (b8.block H l8)
    have d10 : w10.cell? ⟨H, 2, none⟩ = some (.slice A2 S.m cap2) := (blk_cell (H10b.trans h8.blk) 2).trans rfl
    have f10 := blk_free (H10b.trans h8.blk)
    have HAPP := hid happ
    have HH11 := hid H11
    clear happ hown hG10 hat hgl hb10 H11 T11 h9 b8 h8 H10b e1 HH8
    go_region_law (refine step_append_eq rfl (.tmp 46) (.tmp 52) 88 rfl (v := .slice A2 S.m cap2) (y := .slice (some ⟨w8.heap.size, 0, none⟩) 1 1) (by simp [Act.eval]) (by simp [Act.eval]) HAPP.out ?_)
    all_goals
      clear d0 d2 d10 f10 l8 HAPP
      obtain ⟨w11, hw11⟩ : ∃ w11, w11 = w10.setCell ⟨H, 2, none⟩ (.slice (some ⟨g3, 0, none⟩) (S.m + 1) cp3) := ⟨_, rfl⟩
      rw [← hw11] at HH11 HT11 ⊢
      clear hw11
      have h11 := HH11.out
      have d0 : w11.cell? ⟨H, 0, none⟩ = some (.slice (some ⟨g2, 0, none⟩) N cp2) := h11.head.1
      have l11 := lt_of_at h11.blk
      have iw : IntKind.i64.wrap ((N : Int) - 1) = (S.n : Int) := by rw [HNE.out, show ((S.n + 1 : Nat) : Int) - 1 = S.n by omega]; exact IntWalk.i64_in _ (by have := HN.out; have := HM.out; omega)
      have iv2 : IntKind.i64.wrap (S.n : Int) = (S.n : Int) := IntWalk.i64_in _ (by have := HN.out; have := HM.out; omega)
      have HV : Hid (MmV B w11 H (.slice (some ⟨g2, 0, none⟩) N cp2) (.slice (some ⟨g1, 0, none⟩) (S.m + 1) cp1) (.slice (some ⟨g3, 0, none⟩) (S.m + 1) cp3) (S.put (x0, x1, x2))) := by
        have := h11.toV
        rw [HNE.out] at this ⊢
        exact this
      have HLP := hid (HL.out.put HM.out (x0, x1, x2))
      have HHO := hid (put_ivl HL.out HIV.out (x0, x1, x2))
      clear h11
      go_wp2_with fail
      refine (mup_g HV.out HLP.out (i := S.n) (Nat.lt_succ_self _)).mono ?_
      rintro e w12 ⟨rfl, T, C, Lk, K, Pu, Tt⟩
      have HC := hid (show MmV B w12 H (.slice (some ⟨g2, 0, none⟩) N cp2) (.slice (some ⟨g1, 0, none⟩) (S.m + 1) cp1) (.slice (some ⟨g3, 0, none⟩) (S.m + 1) cp3) T ∧ Lnk T ∧ Kin (S.put (x0, x1, x2)) T from ⟨C, Lk, K⟩)
      have HPu := hid Pu
      have HTt := hid Tt
      clear C Lk K Pu Tt iw iv2 d0
      go_wp2
      go_ret2
      refine ⟨rfl, _, _, _, T, HC.out.1, HC.out.2.1, ?_, HC.out.2.2, F11.out, HT11.out.trans HTt.out (fun b q => F11.out b q)⟩
      obtain ⟨e0, i0, hp, hu⟩ := HPu.out
      have := (put_law (n := S.n) HHO.out (sto_ltM _) HLP.out.inj hp hu).2
      rw [HC.out.2.2.k, HC.out.2.2.n]
      exact this
end Go.Proofs.Ytingeijodooocaa
