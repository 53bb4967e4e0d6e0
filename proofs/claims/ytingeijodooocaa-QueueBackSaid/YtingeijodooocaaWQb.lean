/- QueueBack's walk. -/
import Derived.Test.YtingeijodooocaaQuJ
namespace Go.Proofs.Ytingeijodooocaa
open Go.RowKit
set_option maxRecDepth 100000 in
set_option maxHeartbeats 8000000 in
theorem queueBack_any (A : Option Addr) (n cap : Nat) (l : List Wt) (v : Wt) (w : World) (h : SlG 3 fW w A n l) (hok : ∀ x ∈ l, okW x) (hn : n ≤ maxLen) (hv : okW v) :
    Calls Try.prog 4 #[.slice A n cap, wtV v] w fun e w' => e = .returned (.bool true) ∧ Below w.heap.size w w' := by
  have HS := hid h
  have HOK := hid hok
  have HV := hid hv
  have HL : Hid (n = l.length) := h.1
  have hnb : (n : Int) ≤ 9223372036854775807 := by unfold maxLen at hn; omega
  clear h hok hn hv
  obtain ⟨vj, vt, vp⟩ := v
  unfold wtV
  simp only
  go_enter Try.func4, Try.ntmps4
  go_upto_region 1 with (fail)
  refine wp_name ?_
  intro wb hwb
  have X0 : wb.heap[w.heap.size]? = some (.cells #[.int .i64 vj, .string vt, .int .i64 vp] 29 (0, 0)) := by rw [hwb]; exact (by (repeat (first | (with_reducible assumption) | (with_reducible exact alloc_at _ _) | ((with_reducible apply alloc_at'); (simp; done)) | (with_reducible apply alloc_at_lt) | (with_reducible apply heap_drew_at) | (with_reducible apply heap_drewN_at) | (with_reducible apply heap_setCell_same) | ((with_reducible apply heap_set_ne); (first | omega | (dsimp only; omega) | (simp; done) | (simp; omega))) | (with_reducible apply setRow_at) | ((with_reducible apply setRow_ne); (first | omega | (dsimp only; omega) | (simp; done) | (simp; omega))))))
  have BB : Hid (Below w.heap.size w wb) := by unfold Hid; rw [hwb]; exact (by repeat (first | with_reducible assumption | with_reducible exact Below.refl _ _ | with_reducible refine Below.drew ?_ | with_reducible refine below_drewN ?_ _ | with_reducible refine below_alloc ?_ _ | with_reducible refine Below.alloc ?_ (by first | omega | (simp; done) | (simp; omega)) _ | with_reducible refine Below.setCell ?_ (by first | omega | (simp; done) | (simp; omega)) _ | with_reducible refine below_setRow ?_ (by first | omega | (simp; done) | (simp; omega)) _))
  have HX := hid X0
  clear hwb X0
  go_wp2_with fail
  refine (awake_q wb).mono ?_
  rintro e w1 ⟨rfl, hb1⟩
  have B1 : Hid (Below wb.heap.size wb w1) := hb1
  have HB1 : Hid (Below w.heap.size w w1) := BB.out.trans (hb1.mono BB.out.size)
  clear hb1
  by_cases h3 : (300 : Int) < (n : Int)
  · go_wp2_with fail
    refine (awake_q w1).mono ?_
    rintro e w2 ⟨rfl, hb2⟩
    have B2 := HB1.out.trans (hb2.mono HB1.out.size)
    go_wp2
    go_ret
    exact ⟨rfl, B2⟩
  have HN : Hid (n ≤ 300) := by unfold Hid; omega
  have HWX : Hid (∀ X, Below wb.heap.size wb X → w.heap.size < X.heap.size ∧ X.cell? ⟨w.heap.size, 0, none⟩ = some (.int .i64 vj) ∧ X.cell? ⟨w.heap.size, 1, none⟩ = some (.string vt) ∧ X.cell? ⟨w.heap.size, 2, none⟩ = some (.int .i64 vp)) := fun X hX => by
    have A1 := (hX.block _ (lt_of_at HX.out)).trans HX.out
    exact ⟨lt_of_at A1, (blk_cell A1 0).trans rfl, (blk_cell A1 1).trans rfl, (blk_cell A1 2).trans rfl⟩
  go_wp2_with fail
  refine (qs_new B1.out).mono ?_
  rintro e w2 ⟨rfl, hq⟩
  obtain ⟨q, hqe⟩ : ∃ q, q = w1.heap.size := ⟨_, rfl⟩
  rw [← hqe] at hq ⊢
  have HQ0 := hid hq
  clear hq hqe
  go_wp2_with fail
  go_loopw [6] (fun iv wr => ∃ (i : Nat) (L : List Wt), i ≤ n ∧ iv = .int .i64 i ∧ Hid (QS wb wr q L i)) (fun iv _ => n - (intOf iv).toNat)
  case atStart => exact ⟨0, [], Nat.zero_le _, rfl, HQ0⟩
  case round =>
    clear HQ0
    obtain ⟨i, L, hi, rfl, HI⟩ := hrel
    by_cases hin : i < n
    · have HK1 : Hid (i + 1 ≤ n) := hin
      have HMS : Hid (n - (i + 1) < n - i) := by unfold Hid; omega
      have hii : (i : Int) < (n : Int) := by omega
      obtain ⟨u, hu⟩ : ∃ u, l[i]? = some u := ⟨_, List.getElem?_eq_getElem (by have := HL.out; omega)⟩
      obtain ⟨b0, off, rfl, hl, hc⟩ := HS.out.one (BB.out.trans (HI.out.bel.mono BB.out.size)) hu
      have c0 : wr.cell? ⟨b0, off + i * 3, none⟩ = some (.int .i64 u.job) := hc 0 (by omega)
      have c1 : wr.cell? ⟨b0, off + i * 3 + 1, none⟩ = some (.string u.ten) := hc 1 (by omega)
      have c2 : wr.cell? ⟨b0, off + i * 3 + 2, none⟩ = some (.int .i64 u.pri) := hc 2 (by omega)
      have hcall := qs_push HI.out (v := u) (HOK.out u (List.mem_of_getElem? hu)).1 (by have := HN.out; omega)
      generalize errQ L u = e at hcall
      unfold wtV at hcall
      clear hu hc hin hi
      go_wp2_with fail
      refine hcall.mono ?_
      rintro e9 w5 ⟨rfl, hq5⟩
      have HQ5 := hid hq5
      clear hcall hq5 c0 c1 c2 HI hl
      go_wp2
      go_roundw
      case rel => exact ⟨i + 1, _, HK1.out, by go_num, HQ5⟩
      case measure => have := HMS.out; simp [intOf]; omega
    · obtain rfl : i = n := by omega
      have hii : ¬ (i : Int) < (i : Int) := by omega
      have hcall := qs_list HI.out vt
      obtain ⟨x0, x1, x2, x3⟩ := HWX.out _ HI.out.bel
      have HQ := hid HI.out
      have HLL : Hid (L.length ≤ 300) := by have := HI.out.len.1; have := HN.out; unfold Hid; omega
      obtain ⟨M, hM⟩ : ∃ M, M = lsQ vt.data.toList L := ⟨_, rfl⟩
      rw [← hM] at hcall
      have HM := hid hM
      obtain ⟨mm, hmm⟩ : ∃ mm, mm = M.length := ⟨_, rfl⟩
      rw [← hmm] at hcall
      have hmb : (mm : Int) ≤ 300 := by
        have h1 : (lsQ vt.data.toList L).length ≤ L.length := List.length_filter_le _ _
        have := HLL.out
        rw [← hM] at h1
        omega
      have HMM := hid hmm
      clear hin hi HI hM hmm
      go_wp2_with fail
      refine hcall.mono ?_
      rintro e w3 ⟨vs, rfl, hrow, hb3⟩
      obtain ⟨A3, cap3, rfl⟩ := rowR_shape hrow
      obtain ⟨a3, ha3⟩ : ∃ a, a = wr.heap.size := ⟨_, rfl⟩
      rw [← ha3] at hrow
      have HR3 := hid hrow
      have HQ3 : Hid (QK wb w3 q L i a3 w3) := by unfold Hid; rw [ha3]; exact HQ.out.guard hb3
      have HW3 : Hid (∃ wx, wx = w3) := ⟨_, rfl⟩
      clear ha3
      clear hcall hrow hb3 x0 x1 x2 x3 HQ HW3
      obtain ⟨wz, hwz⟩ : ∃ wx, wx = w3 := ⟨_, rfl⟩
      have HR3 : Hid (wz.ownsRow a3 29 3 (.slice A3 mm cap3) mm (flatR 3 fW M)) := by rw [hwz]; exact HR3
      have HQ3 : Hid (QK wb w3 q L i a3 wz) := by rw [hwz]; exact HQ3
      clear hwz
      have hcall := qs_len HQ3.out.qs
      obtain ⟨N, hN⟩ : ∃ N, N = L.length := ⟨_, rfl⟩
      rw [← hN] at hcall
      have HNL := hid hN
      have hNb : (N : Int) ≤ 300 := by have := HLL.out; omega
      clear hN
      go_wp2_with fail
      refine hcall.mono ?_
      rintro e w3 ⟨rfl, rfl⟩
      clear hcall
      obtain ⟨x0, x1, x2, x3⟩ := HWX.out _ HQ3.out.bel
      have hcall := qk_push HQ3.out (v := ⟨vj, vt, vp⟩) HV.out.1 (by have := HN.out; omega)
      obtain ⟨e, he⟩ : ∃ e, e = errQ L ⟨vj, vt, vp⟩ := ⟨_, rfl⟩
      rw [← he] at hcall
      unfold wtV at hcall
      have HE := hid he
      clear he
      go_wp2_with fail
      refine hcall.mono ?_
      rintro e9 w4 ⟨rfl, hq4⟩
      have HQ4 := hid hq4
      have hib : (i : Int) ≤ 300 := by have := HN.out; omega
      clear hcall hq4 x0 x1 x2 x3
      by_cases h0 : e = 0
      case' pos =>
        subst h0
        have hsrt := HQ3.out.qs.srt
        have hpu : pushQ L ⟨vj, vt, vp⟩ = insQ ⟨vj, vt, vp⟩ L := by unfold pushQ; rw [if_pos HE.out.symm]
        have HQA : Hid (QK wb w4 q (insQ ⟨vj, vt, vp⟩ L) (i + 1) a3 wz) := by unfold Hid; rw [← hpu]; exact HQ4.out
        have hcall := qs_get HQA.out.qs vj HV.out.2.1
        have hf : fndQ (insQ ⟨vj, vt, vp⟩ L) vj = some ⟨vj, vt, vp⟩ := ins_fnd hsrt HE.out.symm
        rw [hf] at hcall
        simp only [got, gotE, Option.getD_some, Option.isSome_some, if_true, wtV] at hcall
        obtain ⟨x0, x1, x2, x3⟩ := HWX.out _ HQA.out.bel
        have HLEN : Hid ((insQ (⟨vj, vt, vp⟩ : Wt) L).length = N + 1) := by unfold Hid; rw [(insQ_perm _ L).length_eq, List.length_cons, HNL.out]
        have HER : Hid (errQ (insQ ⟨vj, vt, vp⟩ L) ⟨vj, vt, vp⟩ = 5) := ins_err hsrt HE.out.symm
        have HDL : Hid (delQ vj (insQ ⟨vj, vt, vp⟩ L) = L) := ins_del (v := ⟨vj, vt, vp⟩) hsrt HE.out.symm
        have HRM : Hid (remE (insQ ⟨vj, vt, vp⟩ L) vj = 0) := ins_rem (v := ⟨vj, vt, vp⟩) hsrt HE.out.symm
        have HRN : Hid (remE L vj = 3 ∧ delQ vj L = L) := ⟨rem_none (v := ⟨vj, vt, vp⟩) HE.out.symm, del_no (fnd_none.1 (err_ok HE.out.symm).2)⟩
        clear hsrt hpu hf HQ4
        go_wp2_with fail
        refine hcall.mono ?_
        rintro e9 w5 ⟨rfl, hb5⟩
        have HQB := hid (HQA.out.below hb5)
        have HLn : Hid (∀ W, Below w5.heap.size w5 W → Calls Try.prog 15 #[.pointer (some ⟨q, 0, none⟩)] W fun e w' => e = .returned (.int .i64 ((N : Int) + 1)) ∧ W = w') := fun W hb => by
          have := qs_len (HQB.out.below hb).qs
          rw [HLEN.out] at this
          exact this
        have HPu : Hid (∀ W, Below w5.heap.size w5 W → Calls Try.prog 10 #[.pointer (some ⟨q, 0, none⟩), .agg #[.int .i64 vj, .string vt, .int .i64 vp]] W fun e w' => e = .returned (.int .i64 5) ∧ QK wb w' q (insQ ⟨vj, vt, vp⟩ L) (i + 1 + 1) a3 wz) := fun W hb => by
          have := qk_push (HQB.out.below hb) (v := ⟨vj, vt, vp⟩) HV.out.1 (by have := HN.out; omega)
          rw [HER.out, show pushQ (insQ ⟨vj, vt, vp⟩ L) ⟨vj, vt, vp⟩ = insQ ⟨vj, vt, vp⟩ L by unfold pushQ; rw [HER.out]; rfl] at this
          exact this
        have iw : IntKind.i64.wrap ((N : Int) + 1) = (N : Int) + 1 := IntWalk.i64_in _ (by omega)
        obtain ⟨x0, x1, x2, x3⟩ := HWX.out _ HQB.out.bel
        have hEq := eqWq vj vp vt
        clear hcall hb5
        go_wp2_with fail
        refine (HLn.out _ (by repeat (first | with_reducible assumption | with_reducible exact Below.refl _ _ | with_reducible refine Below.drew ?_ | with_reducible refine below_drewN ?_ _ | with_reducible refine below_alloc ?_ _ | with_reducible refine Below.alloc ?_ (by first | omega | (simp; done) | (simp; omega)) _ | with_reducible refine Below.setCell ?_ (by first | omega | (simp; done) | (simp; omega)) _ | with_reducible refine below_setRow ?_ (by first | omega | (simp; done) | (simp; omega)) _))).mono ?_
        rintro e9 w6 ⟨rfl, rfl⟩
        go_wp2_with fail
        refine (HPu.out _ (by repeat (first | with_reducible assumption | with_reducible exact Below.refl _ _ | with_reducible refine Below.drew ?_ | with_reducible refine below_drewN ?_ _ | with_reducible refine below_alloc ?_ _ | with_reducible refine Below.alloc ?_ (by first | omega | (simp; done) | (simp; omega)) _ | with_reducible refine Below.setCell ?_ (by first | omega | (simp; done) | (simp; omega)) _ | with_reducible refine below_setRow ?_ (by first | omega | (simp; done) | (simp; omega)) _))).mono ?_
        rintro e9 w6 ⟨rfl, hq6⟩
        have hcall := qk_rem hq6 vj HV.out.2.1
        rw [HRM.out, HDL.out] at hcall
        have HQ6 := hid hq6
        clear x0 x1 x2 x3 hq6 hEq
        obtain ⟨x0, x1, x2, x3⟩ := HWX.out _ HQ6.out.bel
        go_wp2_with fail
        refine hcall.mono ?_
        rintro e9 w7 ⟨rfl, hq7⟩
        clear hcall
        have hcall := qk_rem hq7 vj HV.out.2.1
        rw [HRN.out.1, HRN.out.2] at hcall
        have HQ7 := hid hq7
        clear x0 x1 x2 x3 hq7
        obtain ⟨x0, x1, x2, x3⟩ := HWX.out _ HQ7.out.bel
        go_wp2_with fail
        refine hcall.mono ?_
        rintro e9 w9 ⟨rfl, hq9⟩
        have HQ9 : Hid (∃ c, QK wb w9 q L c a3 wz) := ⟨_, hq9⟩
        clear hcall hq9 x0 x1 x2 x3 iw
        go_upto_region 15 with fail
      case' neg =>
        have hpu : pushQ L ⟨vj, vt, vp⟩ = L := by unfold pushQ; rw [if_neg (by rw [← HE.out]; exact h0)]
        have HQ9 : Hid (∃ c, QK wb w4 q L c a3 wz) := ⟨_, by have := HQ4.out; rw [hpu] at this; exact this⟩
        clear hpu HQ4
        obtain ⟨w9, rfl⟩ : ∃ wx_ : World, wx_ = w4 := ⟨_, rfl⟩
        go_upto_region 15 with fail
      all_goals
        obtain ⟨c9, hq9⟩ := HQ9.out
        have HQA := hid hq9
        obtain ⟨x0, x1, x2, x3⟩ := HWX.out _ HQA.out.bel
        have hcall := qs_list HQA.out.qs vt
        rw [← HM.out, ← HMM.out] at hcall
        have HS9 : Hid (SlG 3 fW w9 A3 mm M) := SlG.of_row (by omega) (HQA.out.row HR3.out)
        clear hq9 HQ9
        go_wp2_with fail
        refine hcall.mono ?_
        rintro e9 w10 ⟨vs, rfl, hrow, hb10⟩
        obtain ⟨A5, cap5, rfl⟩ := rowR_shape hrow
        have HS5 := hid (SlG.of_row (by omega) hrow)
        have HQ10 := hid (HQA.out.below hb10)
        have HS10 := hid (HS9.out.below hb10)
        clear hcall hrow hb10 x0 x1 x2 x3
        have hcall := qs_len HQ10.out.qs
        rw [← HNL.out] at hcall
        go_wp2_with fail
        refine hcall.mono ?_
        rintro e9 w10 ⟨rfl, rfl⟩
        clear hcall
        have HI10 : Hid (Below w10.heap.size w10 w10) := Below.refl _ _
        go_wp2_with fail
        go_loopw [13] (fun jv wr => ∃ j : Nat, j ≤ mm ∧ jv = .int .i64 j ∧ Hid (Below w10.heap.size w10 wr)) (fun jv _ => mm - (intOf jv).toNat)
        case atStart => exact ⟨0, Nat.zero_le _, rfl, HI10⟩
        case round =>
          clear HI10
          obtain ⟨j, hj, rfl, HI⟩ := hrel
          by_cases hjn : j < mm
          · have HK1 : Hid (j + 1 ≤ mm) := hjn
            have HMS : Hid (mm - (j + 1) < mm - j) := by unfold Hid; omega
            have hjj : (j : Int) < (mm : Int) := by omega
            obtain ⟨u, hu⟩ : ∃ u, M[j]? = some u := ⟨_, List.getElem?_eq_getElem (by have := HMM.out; omega)⟩
            obtain ⟨b0, off, rfl, hl, hc⟩ := HS5.out.one HI.out hu
            obtain ⟨b1, off1, rfl, hl1, hd⟩ := HS10.out.one HI.out hu
            have c0 : wr.cell? ⟨b0, off + j * 3, none⟩ = some (.int .i64 u.job) := hc 0 (by omega)
            have c1 : wr.cell? ⟨b0, off + j * 3 + 1, none⟩ = some (.string u.ten) := hc 1 (by omega)
            have c2 : wr.cell? ⟨b0, off + j * 3 + 2, none⟩ = some (.int .i64 u.pri) := hc 2 (by omega)
            have d0 : wr.cell? ⟨b1, off1 + j * 3, none⟩ = some (.int .i64 u.job) := hd 0 (by omega)
            have d1 : wr.cell? ⟨b1, off1 + j * 3 + 1, none⟩ = some (.string u.ten) := hd 1 (by omega)
            have d2 : wr.cell? ⟨b1, off1 + j * 3 + 2, none⟩ = some (.int .i64 u.pri) := hd 2 (by omega)
            have hEq := eqWq u.job u.pri u.ten
            have HB2 : Hid (∀ X, Below wr.heap.size wr X → Below w10.heap.size w10 X) := fun X hb => HI.out.trans (hb.mono HI.out.size)
            clear hu hc hd hjn hj
            go_upto_region 21 with (fail)
            go_quiet (fail)
            go_wp2
            go_roundw
            case rel => exact ⟨j + 1, HK1.out, by go_num, HB2.out _ (by repeat (first | with_reducible assumption | with_reducible exact Below.refl _ _ | with_reducible refine Below.drew ?_ | with_reducible refine below_drewN ?_ _ | with_reducible refine below_alloc ?_ _ | with_reducible refine Below.alloc ?_ (by first | omega | (simp; done) | (simp; omega)) _ | with_reducible refine Below.setCell ?_ (by first | omega | (simp; done) | (simp; omega)) _ | with_reducible refine below_setRow ?_ (by first | omega | (simp; done) | (simp; omega)) _))⟩
            case measure => have := HMS.out; simp [intOf]; omega
          · have hjj : ¬ (j : Int) < (mm : Int) := by omega
            have FIN : Hid (Below w.heap.size w wr) := (BB.out.trans (HQ10.out.bel.mono BB.out.size)).trans (HI.out.mono (Nat.le_trans BB.out.size HQ10.out.bel.size))
            clear hj hjn HI
            go_wp2
            go_ret
            exact ⟨rfl, FIN.out⟩
end Go.Proofs.Ytingeijodooocaa
