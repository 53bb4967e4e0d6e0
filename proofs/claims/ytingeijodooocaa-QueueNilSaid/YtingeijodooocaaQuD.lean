/- Chapter 14's queue: Top. -/
import Derived.Test.YtingeijodooocaaQuC
import Derived.Test.YtingeijodooocaaNms
namespace Go.Proofs.Ytingeijodooocaa
open Go.RowKit
variable {B q nA nH c : Nat} {w w' wr : World} {m : Option (Nat × Nat)} {A : WMap} {Hm : HMap} {D : List UInt8 → Hd} {L : List Wt} {ks : List (List UInt8)}
theorem IsTn.len (h : SrtQ L) (hk : IsTn L ks) : ks.length ≤ L.length := by
  obtain ⟨k2, h2, hl⟩ := tn_ex h
  rw [hk.unique h2]; exact hl
theorem bsK_ky (u : Wt) : bsK u.ky = u.ten := ten_eq (by simp [Wt.ky])
/-- Head of a tenant that waits. -/
theorem QuV.heads (h : QuV B w q m nA A nH Hm D L c) (hk : IsTn L ks) {W : World} (hb : Below w.heap.size w W) {i : Nat} {k : List UInt8} (hi : ks[i]? = some k) :
    ∃ u : Wt, hpri L k = u.pri ∧ u.ky = k ∧ (lsQ k L).head? = some u ∧ Calls Try.prog 13 #[.pointer (some ⟨q, 0, none⟩), .string (bsK k)] W fun e w' => e = .returned (.tuple #[.agg #[.int .i64 u.job, .string u.ten, .int .i64 u.pri], .int .i64 0]) ∧ Below W.heap.size W w' := by
  obtain ⟨u, hu, e, hh, hp⟩ := hpri_at ((hk.mem k).1 (List.mem_of_getElem? hi))
  subst e
  obtain ⟨b, hb2⟩ := (h.has u.ky).2 ⟨u, hu, rfl⟩
  obtain ⟨x, hx⟩ := (h.mem u).1 hu
  refine ⟨u, hp, rfl, hh, ?_⟩
  rw [bsK_ky]
  exact qhead_yes (h.below hb) (h.job _ _ _ hx).2.2.2.2.2 hb2 hh
set_option maxRecDepth 20000 in
set_option maxHeartbeats 8000000 in
theorem qtop_g (h : QuV B w q m nA A nH Hm D L c) (hn : L.length ≤ 1000) :
    Calls Try.prog 11 #[.pointer (some ⟨q, 0, none⟩)] w fun e w' => ∃ (v : Value) (ks : List (List UInt8)), e = .returned (.tuple #[.int .i64 (bestL L), v]) ∧ IsTn L ks ∧ w'.ownsRow w.heap.size 9 1 v (topT L (bestL L) ks).length (flatR 1 fK (topT L (bestL L) ks)) ∧ Below w.heap.size w w' := by
  have HH := hid h
  have HLN := hid hn
  have hT := qtenants_g h hn
  clear h hn
  go_enter Try.func11, Try.ntmps11
  go_wp2_with fail
  refine hT.mono ?_
  rintro e w1 ⟨v1, ks, rfl, hk, hrow, hb1⟩
  rw [← flat_S] at hrow
  obtain ⟨A1, cap1, rfl⟩ := rowR_shape hrow
  have HS := hid (SlG.of_row (by omega) hrow)
  have HK := hid hk
  have hkl := IsTn.len HH.out.srt hk
  obtain ⟨N, hN⟩ : ∃ N, N = ks.length := ⟨_, rfl⟩
  rw [← hN] at HS ⊢
  have HN := hid hN
  have hNb : (N : Int) ≤ 1000 := by have := HLN.out; omega
  have HB1 := hid hb1
  have HI1 : Hid (0 = bestT L (ks.take 0) ∧ Below w1.heap.size w1 w1 ∧ w1.ownsRow w1.heap.size 9 1 (.slice none 0 0) 0 (flatR 1 fK (topT L 0 (ks.take 0)))) :=
    ⟨rfl, Below.refl _ _, World.ownsRow_nil _ _ _ _⟩
  clear hT hrow hb1 hk hkl hN
  go_wp2_with fail
  go_loopw [4, 5, 13] (fun bv sv iv wr => ∃ (i n : Nat) (b : Int) (v : Value), i ≤ N ∧ bv = .int .i64 b ∧ v = sv ∧ iv = .int .i64 i ∧ Hid (b = bestT L (ks.take i) ∧ Below w1.heap.size w1 wr ∧ wr.ownsRow w1.heap.size 9 1 v n (flatR 1 fK (topT L b (ks.take i))))) (fun _ _ iv _ => N - (intOf iv).toNat)
  case atStart => exact ⟨0, 0, 0, _, Nat.zero_le _, rfl, rfl, rfl, HI1⟩
  case round =>
    clear HI1
    obtain ⟨i, n, b, v, hi, rfl, rfl, rfl, HI⟩ := hrel
    by_cases hin : i < N
    · have HK1 : Hid (i + 1 ≤ N) := hin
      have HMS : Hid (N - (i + 1) < N - i) := by unfold Hid; omega
      have hii : (i : Int) < (N : Int) := by omega
      have hib : (i : Int) ≤ 1000 := by omega
      obtain ⟨k, hk⟩ : ∃ k, ks[i]? = some k := ⟨_, List.getElem?_eq_getElem (by have := HN.out; omega)⟩
      obtain ⟨b0, off, rfl, hl, c0⟩ := SlS.at_ HS.out HI.out.2.1 hk
      have hb0 : Below w.heap.size w wr := HB1.out.trans (HI.out.2.1.mono HB1.out.size)
      obtain ⟨u, hp, -, -, hcall⟩ := HH.out.heads HK.out hb0 hk
      obtain ⟨A3, cap3, rfl⟩ := rowR_shape HI.out.2.2
      have hnl := rowR_len HI.out.2.2 (by omega)
      have hnN : n ≤ 1000 := by
        have h1 : (topT L b (ks.take i)).length ≤ (ks.take i).length := List.length_filter_le _ _
        rw [List.length_take] at h1
        omega
      have HKI := hid hk
      have HNN := hid hnN
      have HWB := hid hb0
      obtain ⟨j0, t0, p⟩ := u
      simp only at hp hcall
      have HP := hid hp
      clear hk hin hi hb0 hp hnl hnN
      go_wp2_with fail
      refine hcall.mono ?_
      rintro e w5 ⟨rfl, hb5⟩
      have hs5 := hb5.size
      have HB5 := hid hb5
      have B5 : Hid (Below w.heap.size w w5) := HWB.out.trans (hb5.mono HWB.out.size)
      have B15 : Hid (Below w1.heap.size w1 w5) := HI.out.2.1.trans (hb5.mono HI.out.2.1.size)
      have hbT' : Below w5.heap.size w5 ((w5.alloc (.cells #[.int .i64 j0, .string t0, .int .i64 p] 29)).alloc (.cells #[.string (bsK k)] 9)) := (by repeat (first | with_reducible assumption | with_reducible exact Below.refl _ _ | with_reducible refine Below.drew ?_ | with_reducible refine below_drewN ?_ _ | with_reducible refine below_alloc ?_ _ | with_reducible refine Below.alloc ?_ (by first | omega | (simp; done) | (simp; omega)) _ | with_reducible refine Below.setCell ?_ (by first | omega | (simp; done) | (simp; omega)) _ | with_reducible refine below_setRow ?_ (by first | omega | (simp; done) | (simp; omega)) _))
      have hbT := hid hbT'
      have haT' : ((w5.alloc (.cells #[.int .i64 j0, .string t0, .int .i64 p] 29)).alloc (.cells #[.string (bsK k)] 9)).heap[w5.heap.size + 1]? = some (.cells #[.string (bsK k)] 9 (0, 0)) := (by (repeat (first | (with_reducible assumption) | (with_reducible exact alloc_at _ _) | ((with_reducible apply alloc_at'); (simp; done)) | (with_reducible apply alloc_at_lt) | (with_reducible apply heap_drew_at) | (with_reducible apply heap_drewN_at) | (with_reducible apply heap_setCell_same) | ((with_reducible apply heap_set_ne); (first | omega | (dsimp only; omega) | (simp; done) | (simp; omega))) | (with_reducible apply setRow_at) | ((with_reducible apply setRow_ne); (first | omega | (dsimp only; omega) | (simp; done) | (simp; omega))))))
      have haT := hid haT'
      clear hbT' haT'
      by_cases h1 : b < p
      · obtain ⟨g, cap4, w8, happ, hown, hb8⟩ := rowS_app (A := none) (cap := 0) (n := 0) (ks := []) (World.ownsRow_nil w5 w1.heap.size 9 1) (by omega) B15.out.size hbT.out haT.out
        have HAPP := hid happ
        have HI8 : Hid (p = bestT L (ks.take (i + 1)) ∧ Below w1.heap.size w1 w8 ∧ w8.ownsRow w1.heap.size 9 1 (.slice (some ⟨g, 0, none⟩) (0 + 1) cap4) (0 + 1) (flatR 1 fK (topT L p (ks.take (i + 1))))) := by
          refine ⟨?_, (B15.out.trans (hbT.out.mono B15.out.size)).trans hb8, ?_⟩
          · rw [bestT_take HKI.out, HP.out, ← HI.out.1]; omega
          · rw [← HP.out, topT_more HKI.out (by rw [← HI.out.1, HP.out]; exact h1)]
            exact hown
        clear happ hown hb8 hb5 hcall HI
        go_wp2_with (first | (at_builtin; refine wpList_append_eq rfl _ _ _ rfl rfl rfl HAPP.out ?_))
        go_roundw
        case rel => exact ⟨i + 1, 0 + 1, p, _, HK1.out, rfl, rfl, by go_num, HI8⟩
        case measure => have := HMS.out; simp [intOf]; omega
      · by_cases h2 : p = b
        · subst h2
          obtain ⟨g, cap4, w8, happ, hown, hb8⟩ := rowS_app (rowR_below HI.out.2.2 HB5.out) (by have := HNN.out; omega) B15.out.size hbT.out haT.out
          have HAPP := hid happ
          have HI8 : Hid (p = bestT L (ks.take (i + 1)) ∧ Below w1.heap.size w1 w8 ∧ w8.ownsRow w1.heap.size 9 1 (.slice (some ⟨g, 0, none⟩) (n + 1) cap4) (n + 1) (flatR 1 fK (topT L p (ks.take (i + 1))))) := by
            refine ⟨?_, (B15.out.trans (hbT.out.mono B15.out.size)).trans hb8, ?_⟩
            · rw [bestT_take HKI.out, HP.out, ← HI.out.1]; omega
            · rw [topT_take HKI.out, if_pos HP.out]
              exact hown
          clear happ hown hb8 hb5 hcall HI
          go_wp2_with (first | (at_builtin; refine wpList_append_eq rfl _ _ _ rfl rfl rfl HAPP.out ?_))
          go_roundw
          case rel => exact ⟨i + 1, n + 1, p, _, HK1.out, rfl, rfl, by go_num, HI8⟩
          case measure => have := HMS.out; simp [intOf]; omega
        · have HI8 : Hid (∀ X, Below w5.heap.size w5 X → b = bestT L (ks.take (i + 1)) ∧ Below w1.heap.size w1 X ∧ X.ownsRow w1.heap.size 9 1 (.slice A3 n cap3) n (flatR 1 fK (topT L b (ks.take (i + 1))))) := fun X hX => by
            refine ⟨?_, B15.out.trans (hX.mono B15.out.size), ?_⟩
            · rw [bestT_take HKI.out, HP.out, ← HI.out.1]; omega
            · rw [topT_take HKI.out, if_neg (by rw [HP.out]; exact h2)]
              exact rowR_below (rowR_below HI.out.2.2 HB5.out) hX
          clear hb5 hcall HI
          go_wp2
          go_roundw
          case rel => exact ⟨i + 1, n, b, _, HK1.out, rfl, rfl, by go_num, HI8.out _ (by repeat (first | with_reducible assumption | with_reducible exact Below.refl _ _ | with_reducible refine Below.drew ?_ | with_reducible refine below_drewN ?_ _ | with_reducible refine below_alloc ?_ _ | with_reducible refine Below.alloc ?_ (by first | omega | (simp; done) | (simp; omega)) _ | with_reducible refine Below.setCell ?_ (by first | omega | (simp; done) | (simp; omega)) _ | with_reducible refine below_setRow ?_ (by first | omega | (simp; done) | (simp; omega)) _))⟩
          case measure => have := HMS.out; simp [intOf]; omega
    · obtain rfl : i = N := by omega
      have hii : ¬ (i : Int) < (i : Int) := by omega
      have FIN : Hid (b = bestL L ∧ wr.ownsRow w.heap.size 9 1 v (topT L (bestL L) ks).length (flatR 1 fK (topT L (bestL L) ks)) ∧ Below w.heap.size w wr) := by
        have h1 := HI.out.1
        have h3 := HI.out.2.2
        rw [List.take_of_length_le (by rw [← HN.out]; exact Nat.le_refl _)] at h1 h3
        have e : b = bestL L := h1.trans (best_eq HH.out.srt HK.out)
        subst e
        have h4 := rowR_len h3 (by omega)
        refine ⟨rfl, ?_, HB1.out.trans (HI.out.2.1.mono HB1.out.size)⟩
        rw [h4]
        exact ownsRow_base_a h3 HB1.out.size
      clear hi hin HI
      go_wp2
      go_ret2
      refine ⟨v, ?_, ks, HK.out, FIN.out.2.1, FIN.out.2.2⟩
      rw [← FIN.out.1]
      rfl
end Go.Proofs.Ytingeijodooocaa
