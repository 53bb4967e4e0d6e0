/- WorkerHeard's walk: a node that is heard within each lease doesn't expire, one that isn't does, just when its lease is over. -/
import Derived.Test.YtkplhobiciddoaaWkA
import Derived.Test.YtkplhobiciddoaaWkY
import Derived.Test.YtkplhobiciddoaaTimQ
namespace Go.Proofs.Ytkplhobiciddoaa
open Go.RowKit Go.WideShapes
abbrev ndA (nw : Int) (b : Bool) : Nd := ⟨sA, 1, (1, 0, 0, 0), nw, b⟩
theorem exp_no {nw q : Int} (h : ¬ nw + 10 ≤ q) : expO [ndA nw true] q = [] ∧ expL [ndA nw true] q = [ndA nw true] := by
  have h2 : outN q (ndA nw true) = false := by simp [outN]; omega
  constructor
  · simp [expO, h2]
  · simp [expL, h2]
theorem exp_yes {nw q : Int} (h : nw + 10 ≤ q) : expO [ndA nw true] q = [ndA nw true] ∧ expL [ndA nw true] q = [ndA nw false] := by
  have h2 : outN q (ndA nw true) = true := by simp [outN]; omega
  constructor
  · simp [expO, h2]
  · simp [expL, h2]
theorem beat_on {nw q : Int} (h : ¬ q < nw) (h2 : ¬ 1099511627776 < q) : beatR [ndA nw true] sA 1 q = (0, [ndA q true]) := by
  rw [beatR_some (fnd_one _ rfl), if_neg (by simp), if_neg (by simp only; omega), put_one (ndA nw true) { ndA nw true with seen := q } rfl]
set_option maxRecDepth 20000 in
set_option maxHeartbeats 4000000 in
theorem workerHeard_any (A : Option Addr) (n cap : Nat) (l : List Int) (st : Int) (w : World) (hl : Sl1 mkU (fun x => 0 ≤ x ∧ x ≤ 255) w A n l) (hst : 0 ≤ st ∧ st ≤ 4294967295) :
    Calls Try.prog 5 #[.slice A n cap, .int .u32 st] w fun e w' => e = .returned (.bool true) ∧ Below w.heap.size w w' := by
  obtain ⟨hs0, hs1⟩ := hst
  have HL := hid hl
  clear hl
  go_enter Try.func5, Try.ntmps5
  go_wp2_with fail
  refine (awake_any w).mono ?_
  rintro e w1 ⟨rfl, hb1⟩
  have B1 := hid hb1
  clear hb1
  by_cases hn : n ≤ 300
  · have hni : ¬ (300 : Int) < (n : Int) := by omega
    go_wp2_with fail
    refine (new_b w1.heap.size w1 (Nat.le_refl _)).mono ?_
    rintro e w2 ⟨rfl, hb2, hT2⟩
    have BB2 := hid hb2
    have hR := regR_zero 1 st (1, 0, 0, 0) (by decide) (by omega) (by omega) (by omega) (by omega)
    have HT2 := hid hT2
    have HR := hid hR
    clear hb2 hT2 hR
    go_wp2_with fail
    refine (register_any w1.heap.size w1.heap.size [] sA 1 1 0 0 0 st w2 HT2.out sA_le).mono ?_
    rw [HR.out]
    rintro e w3 ⟨rfl, hT3, hB3, -⟩
    have HT3 : Hid (TabB w1.heap.size w3 w1.heap.size [ndA st true]) := hT3
    have HB3 : Hid (Below w1.heap.size w1 w3) := BB2.out.trans hB3
    clear hT3 hB3
    go_wp2_with fail
    go_loopw [6, 9] (fun s6 s9 wr => ∃ (j : Nat) (nw : Int), j ≤ n ∧ s6 = .int .i64 nw ∧ s9 = .int .i64 j ∧ Hid (0 ≤ nw ∧ nw ≤ 4294967295 + 12 * (j : Int)) ∧ Hid (TabB w1.heap.size wr w1.heap.size [ndA nw true]) ∧ Hid (Below w1.heap.size w1 wr)) (fun _ i _ => n - (intOf i).toNat)
    case atStart => exact ⟨0, st, Nat.zero_le _, rfl, rfl, ⟨hs0, by omega⟩, HT3, HB3⟩
    case round =>
      obtain ⟨j, nw, hj, rfl, rfl, HN, HT, HB⟩ := hrel
      clear HT3 HB3
      have HBW : Hid (Below w.heap.size w wr) := B1.out.trans (HB.out.mono B1.out.size)
      have hnw0 := HN.out.1
      have hnw1 : nw ≤ 4294980000 := by have := HN.out.2; omega
      by_cases hjn : j < n
      · obtain ⟨g, hg, hg0, hg1⟩ : ∃ g : Int, g = (l.getD j 0) % 12 ∧ 0 ≤ g ∧ g ≤ 11 := ⟨_, rfl, Int.emod_nonneg _ (by omega), by have := Int.emod_lt_of_pos (l.getD j 0) (show (0 : Int) < 12 by omega); omega⟩
        obtain ⟨b, off, hA, hb, hc⟩ : ∃ b off, A = some ⟨b, off, none⟩ ∧ b < w.heap.size ∧ w.cell? ⟨b, off + j, none⟩ = some (.int .u8 (l.getD j 0)) := by
          obtain ⟨h1, h2 | ⟨b, off, h3, h4, h5⟩, -⟩ := HL.out
          · rw [h2] at h1; simp at h1; omega
          · have h6 := h5 j (by omega)
            refine ⟨b, off, h3, h4, ?_⟩
            rw [h6, List.getD, List.getElem?_eq_getElem (by omega)]
            rfl
        subst hA
        have cj : wr.cell? ⟨b, off + j, none⟩ = some (.int .u8 (l.getD j 0)) := (HBW.out.cell (p := ⟨b, off + j, none⟩) hb).trans hc
        obtain ⟨x, hx⟩ : ∃ x, x = l.getD j 0 := ⟨_, rfl⟩
        rw [← hx] at cj hg
        have hx0 : 0 ≤ x ∧ x ≤ 255 := by
          obtain ⟨h1, -, h3⟩ := HL.out
          rw [hx, List.getD, List.getElem?_eq_getElem (by omega)]
          exact h3 _ (List.getElem_mem _)
        obtain ⟨hx1, hx2⟩ := hx0
        have HJ : Hid (j + 1 ≤ n) := hjn
        have HM : Hid (n - (j + 1) < n - j) := by unfold Hid; omega
        have iwj : IntKind.i64.wrap ((j : Int) + 1) = (j : Int) + 1 := IntWalk.i64_in _ (by omega)
        have hji : (j : Int) < (n : Int) := by omega
        clear hc hx hj hjn hn
        go_upto_region 12 with fail
        rw [← hg]
        clear cj hx1 hx2 hg hji
        have iwg : IntKind.i64.wrap (nw + g) = nw + g := IntWalk.i64_in _ (by omega)
        go_wp2_with fail
        refine (expire_any w1.heap.size w1.heap.size [ndA nw true] (nw + g) wr HT.out).mono ?_
        by_cases hge : (10 : Int) ≤ g
        · obtain ⟨q1, q2⟩ := exp_yes (show nw + 10 ≤ nw + g by omega)
          rw [q1, q2]
          rintro e w4 ⟨v4, rfl, hr4, hT4, hB4, -⟩
          obtain ⟨A4, c4, rfl⟩ := slice_str hr4
          have HT4 := hid hT4
          have HB4 : Hid (Below w1.heap.size w1 w4) := HB.out.trans hB4
          clear hr4 hT4 hB4 q1 q2
          go_wp2_with fail
          refine (beat_any w1.heap.size w1.heap.size _ sA 1 (nw + g) w4 HT4.out sA_le).mono ?_
          rw [beatR_some (fnd_one _ rfl), if_pos (.inr rfl)]
          rintro e w5 ⟨rfl, hT5, hB5, -⟩
          have HT5 := hid hT5
          have HB5 : Hid (Below w1.heap.size w1 w5) := HB4.out.trans hB5
          clear hT5 hB5
          go_wp2_with fail
          refine (get_b w1.heap.size w1.heap.size _ sA w5 HT5.out sA_le).mono ?_
          rw [getR_one _ rfl]
          rintro e w6 ⟨rfl, hb6⟩
          have HT6 := hid (HT5.out.below hb6)
          have HB6 : Hid (Below w1.heap.size w1 w6) := HB5.out.trans (hb6.mono HB5.out.size)
          clear hb6
          simp only [ndV, cellsN]
          have hLv := live_b w1.heap.size w1.heap.size [ndA nw false]
          rw [show lives [ndA nw false] = [] from rfl] at hLv
          go_wp2_with fail
          refine (hLv _ (HT6.out.below (by repeat (first | with_reducible assumption | with_reducible exact Below.refl _ _ | with_reducible refine Below.drew ?_ | with_reducible refine below_drewN ?_ _ | with_reducible refine below_alloc ?_ _ | with_reducible refine Below.alloc ?_ (by first | omega | (simp; done) | (simp; omega)) _ | with_reducible refine Below.setCell ?_ (by first | omega | (simp; done) | (simp; omega)) _ | with_reducible refine below_setRow ?_ (by first | omega | (simp; done) | (simp; omega)) _)))).mono ?_
          rintro e w7 ⟨v7, rfl, hr7, hb7⟩
          obtain ⟨A7, c7, rfl⟩ := rowN_slice hr7
          have HB67 : Hid (Below w6.heap.size w6 w7) := Below.trans (by repeat (first | with_reducible assumption | with_reducible exact Below.refl _ _ | with_reducible refine Below.drew ?_ | with_reducible refine below_drewN ?_ _ | with_reducible refine below_alloc ?_ _ | with_reducible refine Below.alloc ?_ (by first | omega | (simp; done) | (simp; omega)) _ | with_reducible refine Below.setCell ?_ (by first | omega | (simp; done) | (simp; omega)) _ | with_reducible refine below_setRow ?_ (by first | omega | (simp; done) | (simp; omega)) _)) (hb7.mono (by simp))
          have HT7 := hid (HT6.out.below HB67.out)
          have HB7 : Hid (Below w1.heap.size w1 w7) := HB6.out.trans (HB67.out.mono HB6.out.size)
          clear hr7 hb7 hLv
          go_wp2_with fail
          refine (all_b w1.heap.size w1.heap.size _ w7 HT7.out).mono ?_
          rintro e w8 ⟨v8, rfl, hr8, -, hb8⟩
          obtain ⟨A8, c8, rfl⟩ := rowN_slice hr8
          have HB8 : Hid (Below w.heap.size w w8) := B1.out.trans ((HB7.out.trans (hb8.mono HB7.out.size)).mono B1.out.size)
          clear hr8 hb8
          go_wp2
          go_ret
          exact ⟨by first | rfl | simp, HB8.out⟩
        · obtain ⟨q1, q2⟩ := exp_no (show ¬ nw + 10 ≤ nw + g by omega)
          rw [q1, q2]
          rintro e w4 ⟨v4, rfl, hr4, hT4, hB4, -⟩
          obtain ⟨A4, c4, rfl⟩ := slice_str hr4
          have HT4 := hid hT4
          have HB4 : Hid (Below w1.heap.size w1 w4) := HB.out.trans hB4
          clear hr4 hT4 hB4 q1 q2
          go_wp2_with fail
          refine (beat_any w1.heap.size w1.heap.size _ sA 1 (nw + g) w4 HT4.out sA_le).mono ?_
          rw [beat_on (by omega) (by omega)]
          rintro e w5 ⟨rfl, hT5, hB5, -⟩
          have HT5 : Hid (TabB w1.heap.size w5 w1.heap.size [ndA (nw + g) true]) := hT5
          have HB5 : Hid (Below w1.heap.size w1 w5) := HB4.out.trans hB5
          have HN5 : Hid (0 ≤ nw + g ∧ nw + g ≤ 4294967295 + 12 * ((j + 1 : Nat) : Int)) := by have := HN.out; constructor <;> omega
          clear hT5 hB5
          go_wp2
          go_roundw
          case rel => exact ⟨j + 1, nw + g, HJ.out, rfl, by go_num, HN5, HT5, HB5⟩
          case measure => have := HM.out; simp [intOf]; omega
      · obtain rfl : j = n := by omega
        have hLv := live_b w1.heap.size w1.heap.size [ndA nw true] wr HT.out
        rw [show lives [ndA nw true] = [ndA nw true] from rfl] at hLv
        go_wp2_with fail
        refine hLv.mono ?_
        rintro e w7 ⟨v7, rfl, hr7, hb7⟩
        obtain ⟨A7, c7, rfl⟩ := rowN_slice hr7
        have HB8 : Hid (Below w.heap.size w w7) := HBW.out.trans (hb7.mono HBW.out.size)
        clear hr7 hb7 hLv
        go_wp2
        go_ret
        exact ⟨by first | rfl | simp, HB8.out⟩
  · have hni : (300 : Int) < (n : Int) := by omega
    go_wp2_with fail
    refine (awake_any w1).mono ?_
    rintro e w2 ⟨rfl, hb2⟩
    have B2 := B1.out.trans (hb2.mono B1.out.size)
    go_wp2
    go_ret
    exact ⟨rfl, B2⟩
end Go.Proofs.Ytkplhobiciddoaa
