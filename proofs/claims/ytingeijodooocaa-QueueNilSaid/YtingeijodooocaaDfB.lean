/- Chapter 14's reference: List, Head. -/
import Derived.Test.YtingeijodooocaaDfA
namespace Go.Proofs.Ytingeijodooocaa
open Go.RowKit
variable {B g n c : Nat} {w w' wr : World} {v : Value} {L M : List Wt} {A : Option Addr} {cap : Nat}
/-- A waiter is put behind a row. -/
theorem rowQ_app {T : World} {b : Nat} {x : Wt} (h : w.ownsRow B 56 3 (.slice A n cap) n (flatR 3 fW M)) (hn : n + 1 ≤ 100000) (hB : B ≤ w.heap.size) (hb : Below w.heap.size w T) (hg : T.heap[b]? = some (.cells #[.int .i64 x.job, .string x.ten, .int .i64 x.pri] 56 (0, 0))) :
    ∃ g' cap' w8, (Builtin.append_ #[44, 44] 44 #[.slice A n cap, .slice (some ⟨b, 0, none⟩) 1 1]).run Try.prog T = .ok (.slice (some ⟨g', 0, none⟩) (n + 1) cap') w8 ∧
      w8.ownsRow B 56 3 (.slice (some ⟨g', 0, none⟩) (n + 1) cap') (n + 1) (flatR 3 fW (M ++ [x])) ∧ Below B T w8 ∧ T.grownBy w8 (Value.slice A n cap).ownBlock ∧ ((Value.slice A n cap).ownBlock = some g' ∨ g' = T.heap.size) := by
  obtain ⟨g', cap', w8, happ, hown, hG, hat, -, hb8⟩ := rowR_app (m := [x]) (f := fW) recR (by omega) fW_one (rowR_below h hb) (by simp; omega) (by simp; omega) (Nat.le_trans hB hb.size) ⟨b, 0, none⟩ 1 (by simp) (fun o y hy => by
    have ho : o < 3 := by
      have := (List.getElem?_eq_some_iff.1 hy).1
      rw [flatR_len] at this
      simpa using this
    have e0 : (⟨b, 0, none⟩ : Addr).add o = ⟨b, o, none⟩ := by unfold Addr.add; split <;> simp_all
    rw [e0, blk_cell hg, ← hy, flatR_one, fW_range]
    simp)
  exact ⟨g', cap', w8, happ, hown, hb8, hG, hat⟩
theorem ls_take {k : List UInt8} {i : Nat} {x : Wt} (hx : L[i]? = some x) : lsQ k (L.take (i + 1)) = if x.ky = k then lsQ k (L.take i) ++ [x] else lsQ k (L.take i) := by
  rw [List.take_add_one, hx]
  unfold lsQ
  rw [List.filter_append]
  by_cases e : x.ky = k <;> simp [e]
set_option maxRecDepth 20000 in
set_option maxHeartbeats 4000000 in
theorem rlist_g (h : RfQ B w g v n L) (hn : n ≤ 1000) (s : ByteArray) :
    Calls Try.prog 22 #[.pointer (some ⟨g, 0, none⟩), .string s] w fun e w' => ∃ v', e = .returned v' ∧ w'.ownsRow w.heap.size 56 3 v' (lsQ s.data.toList L).length (flatR 3 fW (lsQ s.data.toList L)) ∧ Below w.heap.size w w' := by
  have HH := hid h
  have HL := hid h.len
  have HN := hid hn
  have hnb : (n : Int) ≤ 1000 := by omega
  obtain ⟨A, cap, rfl⟩ := rowR_shape h.row
  clear h hn
  have HI0 : Hid (Below w.heap.size w w ∧ w.ownsRow w.heap.size 56 3 (.slice none 0 0) 0 (flatR 3 fW (lsQ s.data.toList (L.take 0)))) := ⟨Below.refl _ _, World.ownsRow_nil _ _ _ _⟩
  have hlg := HH.out.ltg
  go_enter Try.func22, Try.ntmps22
  go_wp2_with fail
  go_loopw [5, 6] (fun sv iv wr => ∃ (i m : Nat) (v' : Value), i ≤ n ∧ v' = sv ∧ iv = .int .i64 i ∧ Hid (Below w.heap.size w wr ∧ wr.ownsRow w.heap.size 56 3 v' m (flatR 3 fW (lsQ s.data.toList (L.take i))))) (fun _ iv _ => n - (intOf iv).toNat)
  case atStart => exact ⟨0, 0, _, Nat.zero_le _, rfl, rfl, HI0⟩
  case round =>
    clear HI0
    obtain ⟨i, m, v', hi, rfl, rfl, HI⟩ := hrel
    have m0 := (HH.out.below HI.out.1).head
    have mg := (HH.out.below HI.out.1).ltg
    by_cases hin : i < n
    · have HK1 : Hid (i + 1 ≤ n) := hin
      have HMS : Hid (n - (i + 1) < n - i) := by unfold Hid; omega
      have hii : (i : Int) < (n : Int) := by omega
      obtain ⟨x, hx⟩ : ∃ x, L[i]? = some x := ⟨_, List.getElem?_eq_getElem (by have := HL.out; omega)⟩
      obtain ⟨b, cap', e, hl, -, c0, c1, c2⟩ := HH.out.elem HI.out.1 hx
      injection e with e1 e2 e3
      subst e1 e3
      obtain ⟨A3, cap3, rfl⟩ := rowR_shape HI.out.2
      have hml := rowR_len HI.out.2 (by omega)
      have HMN : Hid (m ≤ 1000) := by
        have h1 : (lsQ s.data.toList (L.take i)).length ≤ (L.take i).length := List.length_filter_le _ _
        rw [List.length_take] at h1
        have := HN.out
        unfold Hid
        omega
      have HX := hid hx
      by_cases hq : x.ky = s.data.toList
      · have heq : (x.ten.toList == s.toList) = true := by
          have : x.ten = s := ten_eq hq
          rw [this]; simp
        have hb0 : Below wr.heap.size wr (wr.alloc (.cells #[.int .i64 x.job, .string x.ten, .int .i64 x.pri] 56)) := (by repeat (first | with_reducible assumption | with_reducible exact Below.refl _ _ | with_reducible refine Below.drew ?_ | with_reducible refine below_drewN ?_ _ | with_reducible refine below_alloc ?_ _ | with_reducible refine Below.alloc ?_ (by first | omega | (simp; done) | (simp; omega)) _ | with_reducible refine Below.setCell ?_ (by first | omega | (simp; done) | (simp; omega)) _ | with_reducible refine below_setRow ?_ (by first | omega | (simp; done) | (simp; omega)) _))
        have ha : (wr.alloc (.cells #[.int .i64 x.job, .string x.ten, .int .i64 x.pri] 56)).heap[wr.heap.size]? = some (.cells #[.int .i64 x.job, .string x.ten, .int .i64 x.pri] 56 (0, 0)) := alloc_at wr _
        obtain ⟨g', cap4, w8, happ, hown, hb8, -, -⟩ := rowQ_app HI.out.2 (by have := HMN.out; omega) HI.out.1.size hb0 ha
        have HAPP := hid happ
        have HI8 : Hid (Below w.heap.size w w8 ∧ w8.ownsRow w.heap.size 56 3 (.slice (some ⟨g', 0, none⟩) (m + 1) cap4) (m + 1) (flatR 3 fW (lsQ s.data.toList (L.take (i + 1))))) := by
          refine ⟨(HI.out.1.trans (hb0.mono HI.out.1.size)).trans hb8, ?_⟩
          rw [ls_take HX.out, if_pos hq]
          exact hown
        clear hin hi hx hq hml hb0 ha happ hown hb8 HI
        go_wp2_with (first | (at_builtin; refine wpList_append_eq rfl _ _ _ rfl rfl rfl HAPP.out ?_))
        go_roundw
        case rel => exact ⟨i + 1, m + 1, _, HK1.out, rfl, by go_num, HI8⟩
        case measure => have := HMS.out; simp [intOf]; omega
      · have heq : (x.ten.toList == s.toList) = false := by
          rw [beq_eq_false_iff_ne]
          intro e
          exact hq (by unfold Wt.ky; simpa [Go.Lib.toList_data] using e)
        have HI8 : Hid (Below w.heap.size w wr ∧ wr.ownsRow w.heap.size 56 3 (.slice A3 m cap3) m (flatR 3 fW (lsQ s.data.toList (L.take (i + 1))))) := by
          refine ⟨HI.out.1, ?_⟩
          rw [ls_take HX.out, if_neg hq]
          exact HI.out.2
        clear hin hi hx hq hml HI
        go_wp2
        go_roundw
        case rel => exact ⟨i + 1, m, _, HK1.out, rfl, by go_num, HI8⟩
        case measure => have := HMS.out; simp [intOf]; omega
    · obtain rfl : i = n := by omega
      have hii : ¬ (i : Int) < (i : Int) := by omega
      have FIN : Hid (wr.ownsRow w.heap.size 56 3 v' (lsQ s.data.toList L).length (flatR 3 fW (lsQ s.data.toList L)) ∧ Below w.heap.size w wr) := by
        have h1 := HI.out.2
        rw [List.take_of_length_le (by have := HL.out; omega)] at h1
        have h2 := rowR_len h1 (by omega)
        exact ⟨by rw [h2]; exact h1, HI.out.1⟩
      clear hin hi HI
      go_wp2
      go_ret
      exact ⟨v', rfl, FIN.out.1, FIN.out.2⟩
set_option maxRecDepth 20000 in
set_option maxHeartbeats 2000000 in
theorem rhead_g (h : RfQ B w g v n L) (hn : n ≤ 1000) (s : ByteArray) :
    Calls Try.prog 37 #[.pointer (some ⟨g, 0, none⟩), .string s] w fun e w' => e = .returned (.tuple #[wtV (got (lsQ s.data.toList L).head?), .int .i64 (gotE (lsQ s.data.toList L).head?)]) ∧ Below w.heap.size w w' := by
  have HF : Hid (∀ W, Below w.heap.size w W → Calls Try.prog 22 #[.pointer (some ⟨g, 0, none⟩), .string s] W fun e w' => ∃ v', e = .returned v' ∧ w'.ownsRow W.heap.size 56 3 v' (lsQ s.data.toList L).length (flatR 3 fW (lsQ s.data.toList L)) ∧ Below W.heap.size W w') := fun W hb => rlist_g (h.below hb) hn s
  have HLL : Hid ((lsQ s.data.toList L).length ≤ 1000) := by
    have h1 : (lsQ s.data.toList L).length ≤ L.length := List.length_filter_le _ _
    have := h.len
    unfold Hid
    omega
  have hlg := h.ltg
  clear h hn
  generalize lsQ s.data.toList L = M at *
  go_enter Try.func37, Try.ntmps37
  go_wp2_with fail
  refine (HF.out _ (by repeat (first | with_reducible assumption | with_reducible exact Below.refl _ _ | with_reducible refine Below.drew ?_ | with_reducible refine below_drewN ?_ _ | with_reducible refine below_alloc ?_ _ | with_reducible refine Below.alloc ?_ (by first | omega | (simp; done) | (simp; omega)) _ | with_reducible refine Below.setCell ?_ (by first | omega | (simp; done) | (simp; omega)) _ | with_reducible refine below_setRow ?_ (by first | omega | (simp; done) | (simp; omega)) _))).mono ?_
  rintro e w1 ⟨v1, rfl, hrow, hb1⟩
  have A1 : w1.heap[w.heap.size]? = some (.cells #[.int .i64 0, .string ⟨#[]⟩, .int .i64 0] 56 (0, 0)) := (hb1.block _ (by simp)).trans (by (repeat (first | (with_reducible assumption) | (with_reducible exact alloc_at _ _) | ((with_reducible apply alloc_at'); (simp; done)) | (with_reducible apply alloc_at_lt) | (with_reducible apply heap_drew_at) | (with_reducible apply heap_drewN_at) | (with_reducible apply heap_setCell_same) | ((with_reducible apply heap_set_ne); (first | omega | (dsimp only; omega) | (simp; done) | (simp; omega))) | (with_reducible apply setRow_at) | ((with_reducible apply setRow_ne); (first | omega | (dsimp only; omega) | (simp; done) | (simp; omega))))))
  have hs1 := hb1.size
  simp only [World.size_alloc] at hs1
  have B1 : Below w.heap.size w w1 := Below.trans (by repeat (first | with_reducible assumption | with_reducible exact Below.refl _ _ | with_reducible refine Below.drew ?_ | with_reducible refine below_drewN ?_ _ | with_reducible refine below_alloc ?_ _ | with_reducible refine Below.alloc ?_ (by first | omega | (simp; done) | (simp; omega)) _ | with_reducible refine Below.setCell ?_ (by first | omega | (simp; done) | (simp; omega)) _ | with_reducible refine below_setRow ?_ (by first | omega | (simp; done) | (simp; omega)) _)) (hb1.mono (by first | omega | (simp; done) | (simp; omega)))
  have l1 := lt_of_at A1
  have qf := blk_free A1
  have q0 : w1.cell? ⟨w.heap.size, 0, none⟩ = some (.int .i64 0) := (blk_cell A1 0).trans rfl
  have q1 : w1.cell? ⟨w.heap.size, 1, none⟩ = some (.string ⟨#[]⟩) := (blk_cell A1 1).trans rfl
  have q2 : w1.cell? ⟨w.heap.size, 2, none⟩ = some (.int .i64 0) := (blk_cell A1 2).trans rfl
  obtain ⟨A3, cap3, rfl⟩ := rowR_shape hrow
  clear hb1 HF
  cases M with
  | nil =>
    clear hrow
    go_wp2
    refine ret_row2 rfl w.heap.size #[.int .i64 0, .string ⟨#[]⟩, .int .i64 0] 56 _ rfl Try.underlying56 rfl infoR rfl (by apply Exists.intro; refine ⟨?_, ?_⟩; (focus ((repeat (first | (with_reducible assumption) | (with_reducible exact alloc_at _ _) | ((with_reducible apply alloc_at'); (simp; done)) | (with_reducible apply alloc_at_lt) | (with_reducible apply heap_drew_at) | (with_reducible apply heap_drewN_at) | (with_reducible apply heap_setCell_same) | ((with_reducible apply heap_set_ne); (first | omega | (dsimp only; omega) | (simp; done) | (simp; omega))) | (with_reducible apply setRow_at) | ((with_reducible apply setRow_ne); (first | omega | (dsimp only; omega) | (simp; done) | (simp; omega))))))); simp) ⟨rfl, (by repeat (first | with_reducible assumption | with_reducible exact Below.refl _ _ | with_reducible refine Below.drew ?_ | with_reducible refine below_drewN ?_ _ | with_reducible refine below_alloc ?_ _ | with_reducible refine Below.alloc ?_ (by first | omega | (simp; done) | (simp; omega)) _ | with_reducible refine Below.setCell ?_ (by first | omega | (simp; done) | (simp; omega)) _ | with_reducible refine below_setRow ?_ (by first | omega | (simp; done) | (simp; omega)) _))⟩
  | cons x M =>
    obtain ⟨b, cap', e, -, hl, hf, hc⟩ := rowR_cells hrow (by simp)
    injection e with e1 e2 e3
    subst e1 e3
    have c0 : w1.cell? ⟨b, 0, none⟩ = some (.int .i64 x.job) := hc 0 x rfl 0 (by omega)
    have c1 : w1.cell? ⟨b, 1, none⟩ = some (.string x.ten) := hc 0 x rfl 1 (by omega)
    have c2 : w1.cell? ⟨b, 2, none⟩ = some (.int .i64 x.pri) := hc 0 x rfl 2 (by omega)
    obtain ⟨m, hm⟩ : ∃ m, m = (x :: M).length := ⟨_, rfl⟩
    rw [← hm]
    have hm0 : (0 : Int) < (m : Int) := by rw [hm]; simp
    have hm1 : ¬ (m : Int) = 0 := by omega
    clear hrow hc hm hf
    go_wp2
    refine ret_row2 rfl w.heap.size #[.int .i64 x.job, .string x.ten, .int .i64 x.pri] 56 _ rfl Try.underlying56 rfl infoR rfl (by apply Exists.intro; refine ⟨?_, ?_⟩; (focus ((repeat (first | (with_reducible assumption) | (with_reducible exact alloc_at _ _) | ((with_reducible apply alloc_at'); (simp; done)) | (with_reducible apply alloc_at_lt) | (with_reducible apply heap_drew_at) | (with_reducible apply heap_drewN_at) | (with_reducible apply heap_setCell_same) | ((with_reducible apply heap_set_ne); (first | omega | (dsimp only; omega) | (simp; done) | (simp; omega))) | (with_reducible apply setRow_at) | ((with_reducible apply setRow_ne); (first | omega | (dsimp only; omega) | (simp; done) | (simp; omega))))))); simp) ⟨rfl, (by repeat (first | with_reducible assumption | with_reducible exact Below.refl _ _ | with_reducible refine Below.drew ?_ | with_reducible refine below_drewN ?_ _ | with_reducible refine below_alloc ?_ _ | with_reducible refine Below.alloc ?_ (by first | omega | (simp; done) | (simp; omega)) _ | with_reducible refine Below.setCell ?_ (by first | omega | (simp; done) | (simp; omega)) _ | with_reducible refine below_setRow ?_ (by first | omega | (simp; done) | (simp; omega)) _))⟩
end Go.Proofs.Ytingeijodooocaa
