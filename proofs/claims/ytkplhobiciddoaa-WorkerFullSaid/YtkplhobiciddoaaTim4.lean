/- Contract of container/heap's down over chapter 10's clock. -/
import Derived.Test.YtkplhobiciddoaaTim3
namespace Go.Proofs.Ytkplhobiciddoaa
open Go.RowKit
set_option maxHeartbeats 4000000 in
theorem down_g {zn : Value} (B c n b : Nat) (v : Value) (l : List Al) (i0 N : Nat) (w : World) (h : Good B w c zn v b l n) (hn : n ≤ 100000) (hm : l.length ≤ 100000) (hN : N ≤ l.length) (hi : i0 ≤ N) :
    Calls Try.prog 52 #[.iface 86 (.agg #[.pointer (some ⟨c, 1, none⟩)]), .int .i64 i0, .int .i64 N] w fun e w' => e = .returned (.bool (decide (i0 < (downL l i0 N).2))) ∧ Good B w' c zn v b (downL l i0 N).1 n ∧ Tur (Foot c v (some b)) w w' := by
  have mL := m_less c
  have mS := m_swap c
  have HG := hid h
  have HM : Hid (l.length ≤ 100000) := hm
  have HN : Hid (n ≤ 100000) := hn
  have HNL : Hid (N ≤ l.length) := hN
  have HI : Hid (i0 ≤ N) := hi
  clear h hm hn hN hi
  go_enter Try.func52, Try.ntmps52
  go_wp2
  go_loopw [7] (fun i wr => ∃ (k : Nat) (l' : List Al), i = .int .i64 k ∧ Hid (i0 ≤ k ∧ k ≤ N ∧ l'.length = l.length ∧ Good B wr c zn v b l' n ∧ downL l' k N = downL l i0 N ∧ Tur (Foot c v (some b)) w wr)) (fun i _ => N - (intOf i).toNat)
  case atStart => exact ⟨i0, l, rfl, Nat.le_refl _, HI.out, rfl, HG.out, rfl, Tur.refl _ _⟩
  case round =>
    obtain ⟨k, l', rfl, hq⟩ := hrel
    have hkN : k ≤ N := hq.out.2.1
    have hlen : l'.length = l.length := hq.out.2.2.1
    have hh : Hid (i0 ≤ k ∧ l'.length = l.length ∧ Good B wr c zn v b l' n ∧ downL l' k N = downL l i0 N ∧ Tur (Foot c v (some b)) w wr) := by
      obtain ⟨h1, h2, h3⟩ := hq.out; exact ⟨h1, h3⟩
    have g0 := hh.out.2.2.1
    clear hq
    have hm' := HM.out
    have hNl := HNL.out
    have HML : Hid (l'.length ≤ 100000) := by unfold Hid; omega
    obtain ⟨d, hd⟩ : ∃ d, d = 2 * k := ⟨_, rfl⟩
    obtain ⟨a1, ha1⟩ : ∃ d, d = 2 * k + 1 := ⟨_, rfl⟩
    obtain ⟨a2, ha2⟩ : ∃ d, d = 2 * k + 2 := ⟨_, rfl⟩
    have iwA : IntKind.i64.wrap (2 * (k : Int)) = (d : Int) := by rw [show (2 * (k : Int)) = (d : Int) by omega]; exact IntWalk.i64_in _ (by omega)
    have iwB : IntKind.i64.wrap ((d : Int) + 1) = (a1 : Int) := by rw [show ((d : Int) + 1) = (a1 : Int) by omega]; exact IntWalk.i64_in _ (by omega)
    have iwC : IntKind.i64.wrap ((a1 : Int) + 1) = (a2 : Int) := by rw [show ((a1 : Int) + 1) = (a2 : Int) by omega]; exact IntWalk.i64_in _ (by omega)
    have hnn : ¬ (a1 : Int) < 0 := by omega
    by_cases hA : 2 * k + 1 < N
    · have HA := hid hA
      have HK : Hid (k < l'.length) := by unfold Hid; omega
      have H1 : Hid (a1 < l'.length) := by unfold Hid; omega
      have hA' : ¬ (N : Int) ≤ (a1 : Int) := by omega
      have T4 : Tur (Foot c v (some b)) wr wr := Tur.refl _ _
      by_cases hC : 2 * k + 2 < N
      · have HC := hid hC
        have H2 : Hid (a2 < l'.length) := by unfold Hid; omega
        have hC' : (a2 : Int) < (N : Int) := by omega
        have HE1 := hid ha1
        have HE2 := hid ha2
        have HLT1 : Hid (k < a1 ∧ a1 < N) := by unfold Hid; omega
        have HLT2 : Hid (k < a2 ∧ a2 < N) := by unfold Hid; omega
        clear hd ha1 ha2 hA hC hkN hlen hm' hNl
        go_wp2_with fail
        refine (less_g B c n b v l' a2 a1 wr g0 HML.out H2.out H1.out).mono ?_
        rintro e w4 ⟨rfl, hb4⟩
        have g4 := g0.below hb4
        have T4 := T4.then (Tur.of_below (F := Foot c v (some b)) hb4)
        obtain ⟨q, hq⟩ : ∃ q, q = ltA (el l' a2) (el l' a1) := ⟨_, rfl⟩
        rw [← hq]
        have HQ := hid hq
        clear hq hb4 g0
        cases q with
        | true =>
          have HKID : Hid (a2 = kid l' k N) := by
            unfold Hid kid
            rw [if_pos ⟨HC.out, by rw [← HE2.out, ← HE1.out]; exact HQ.out.symm⟩]
            exact HE2.out
          have HLT := HLT2
          obtain ⟨r, hr⟩ : ∃ r, r = ltA (el l' a2) (el l' k) := ⟨_, rfl⟩
          have HR := hid hr
          go_wp2_with fail
          refine (less_g B c n b v l' a2 k w4 g4 HML.out H2.out HK.out).mono ?_
          rintro e w5 ⟨rfl, hb5⟩
          have g5 := (g4).below hb5
          have T5 := T4.then (Tur.of_below (F := Foot c v (some b)) hb5)
          have HT5 := hid T5
          rw [← hr]
          clear hr hb5 T5 T4
          cases r with
          | false =>
            have hd : downL l' k N = (l', k) := by unfold downL; rw [dif_pos HA.out, ← HKID.out, ← HR.out, if_neg (by decide)]
            obtain ⟨h1, h2, h3, h4, h5⟩ := hh.out
            have hres : (downL l i0 N) = (l', k) := h4.symm.trans hd
            have g6 := hid g5
            clear g5 h1 h2 h3 h4 h5 hd
            by_cases hki : i0 < k
            · have hki' : (i0 : Int) < (k : Int) := by omega
              go_wp2
              go_ret
              try rw [hres]
              exact ⟨by simp [hki], g6.out, (hh.out.2.2.2.2).then HT5.out⟩
            · have hki' : ¬ (i0 : Int) < (k : Int) := by omega
              go_wp2
              go_ret
              try rw [hres]
              exact ⟨by simp [hki], g6.out, (hh.out.2.2.2.2).then HT5.out⟩
          | true =>
            go_wp2_with fail
            refine (swap_g B c n b v l' k a2 w5 g5 HN.out HML.out HK.out H2.out).mono ?_
            rintro e w6 ⟨rfl, g6, t6⟩
            have G6 := hid g6
            have T6 := hid t6
            clear g5 g6 t6
            go_wp2
            go_roundw
            case rel =>
              obtain ⟨h1, h2, h3, h4, h5⟩ := hh.out
              refine ⟨a2, sw l' k a2, rfl, ?_, ?_, by rw [sw_length]; exact h2, G6.out, ?_, (h5.then HT5.out).then T6.out⟩
              · have := HLT.out; omega
              · have := HLT.out; omega
              · rw [← h4]
                conv => rhs; unfold downL
                rw [dif_pos HA.out, ← HKID.out, ← HR.out, if_pos rfl]
            case measure =>
              have := HLT.out
              simp [intOf]; omega
        | false =>
          have HKID : Hid (a1 = kid l' k N) := by
            unfold Hid kid
            rw [if_neg (by rw [← HE2.out, ← HE1.out, ← HQ.out]; simp)]
            exact HE1.out
          have HLT := HLT1
          obtain ⟨r, hr⟩ : ∃ r, r = ltA (el l' a1) (el l' k) := ⟨_, rfl⟩
          have HR := hid hr
          go_wp2_with fail
          refine (less_g B c n b v l' a1 k w4 g4 HML.out H1.out HK.out).mono ?_
          rintro e w5 ⟨rfl, hb5⟩
          have g5 := (g4).below hb5
          have T5 := T4.then (Tur.of_below (F := Foot c v (some b)) hb5)
          have HT5 := hid T5
          rw [← hr]
          clear hr hb5 T5 T4
          cases r with
          | false =>
            have hd : downL l' k N = (l', k) := by unfold downL; rw [dif_pos HA.out, ← HKID.out, ← HR.out, if_neg (by decide)]
            obtain ⟨h1, h2, h3, h4, h5⟩ := hh.out
            have hres : (downL l i0 N) = (l', k) := h4.symm.trans hd
            have g6 := hid g5
            clear g5 h1 h2 h3 h4 h5 hd
            by_cases hki : i0 < k
            · have hki' : (i0 : Int) < (k : Int) := by omega
              go_wp2
              go_ret
              try rw [hres]
              exact ⟨by simp [hki], g6.out, (hh.out.2.2.2.2).then HT5.out⟩
            · have hki' : ¬ (i0 : Int) < (k : Int) := by omega
              go_wp2
              go_ret
              try rw [hres]
              exact ⟨by simp [hki], g6.out, (hh.out.2.2.2.2).then HT5.out⟩
          | true =>
            go_wp2_with fail
            refine (swap_g B c n b v l' k a1 w5 g5 HN.out HML.out HK.out H1.out).mono ?_
            rintro e w6 ⟨rfl, g6, t6⟩
            have G6 := hid g6
            have T6 := hid t6
            clear g5 g6 t6
            go_wp2
            go_roundw
            case rel =>
              obtain ⟨h1, h2, h3, h4, h5⟩ := hh.out
              refine ⟨a1, sw l' k a1, rfl, ?_, ?_, by rw [sw_length]; exact h2, G6.out, ?_, (h5.then HT5.out).then T6.out⟩
              · have := HLT.out; omega
              · have := HLT.out; omega
              · rw [← h4]
                conv => rhs; unfold downL
                rw [dif_pos HA.out, ← HKID.out, ← HR.out, if_pos rfl]
            case measure =>
              have := HLT.out
              simp [intOf]; omega
      · have HKID : Hid (a1 = kid l' k N) := by
          unfold Hid kid
          rw [if_neg (fun h => hC h.1)]
          exact ha1
        have hC' : ¬ (a2 : Int) < (N : Int) := by omega
        have HLT : Hid (k < a1 ∧ a1 < N) := by unfold Hid; omega
        clear hd ha1 ha2 hA hC hkN hlen hm' hNl
        obtain ⟨r, hr⟩ : ∃ r, r = ltA (el l' a1) (el l' k) := ⟨_, rfl⟩
        have HR := hid hr
        go_wp2_with fail
        refine (less_g B c n b v l' a1 k wr g0 HML.out H1.out HK.out).mono ?_
        rintro e w5 ⟨rfl, hb5⟩
        have g5 := (g0).below hb5
        have T5 := T4.then (Tur.of_below (F := Foot c v (some b)) hb5)
        have HT5 := hid T5
        rw [← hr]
        clear hr hb5 T5 T4
        cases r with
        | false =>
          have hd : downL l' k N = (l', k) := by unfold downL; rw [dif_pos HA.out, ← HKID.out, ← HR.out, if_neg (by decide)]
          obtain ⟨h1, h2, h3, h4, h5⟩ := hh.out
          have hres : (downL l i0 N) = (l', k) := h4.symm.trans hd
          have g6 := hid g5
          clear g5 h1 h2 h3 h4 h5 hd
          by_cases hki : i0 < k
          · have hki' : (i0 : Int) < (k : Int) := by omega
            go_wp2
            go_ret
            try rw [hres]
            exact ⟨by simp [hki], g6.out, (hh.out.2.2.2.2).then HT5.out⟩
          · have hki' : ¬ (i0 : Int) < (k : Int) := by omega
            go_wp2
            go_ret
            try rw [hres]
            exact ⟨by simp [hki], g6.out, (hh.out.2.2.2.2).then HT5.out⟩
        | true =>
          go_wp2_with fail
          refine (swap_g B c n b v l' k a1 w5 g5 HN.out HML.out HK.out H1.out).mono ?_
          rintro e w6 ⟨rfl, g6, t6⟩
          have G6 := hid g6
          have T6 := hid t6
          clear g5 g6 t6
          go_wp2
          go_roundw
          case rel =>
            obtain ⟨h1, h2, h3, h4, h5⟩ := hh.out
            refine ⟨a1, sw l' k a1, rfl, ?_, ?_, by rw [sw_length]; exact h2, G6.out, ?_, (h5.then HT5.out).then T6.out⟩
            · have := HLT.out; omega
            · have := HLT.out; omega
            · rw [← h4]
              conv => rhs; unfold downL
              rw [dif_pos HA.out, ← HKID.out, ← HR.out, if_pos rfl]
          case measure =>
            have := HLT.out
            simp [intOf]; omega
    · have hA' : (N : Int) ≤ (a1 : Int) := by omega
      have hdn : downL l' k N = (l', k) := by unfold downL; rw [dif_neg hA]
      obtain ⟨h1, h2, h3, h4, h5⟩ := hh.out
      have hres : (downL l i0 N) = (l', k) := h4.symm.trans hdn
      have g6 := hid g0
      clear g0 h1 h2 h3 h4 h5 hdn hd ha1 ha2 hA hkN hlen hm' hNl
      by_cases hki : i0 < k
      · have hki' : (i0 : Int) < (k : Int) := by omega
        go_wp2
        go_ret
        try rw [hres]
        exact ⟨by simp, g6.out, hh.out.2.2.2.2⟩
      · have hki' : ¬ (i0 : Int) < (k : Int) := by omega
        go_wp2
        go_ret
        try rw [hres]
        exact ⟨by simp, g6.out, hh.out.2.2.2.2⟩
end Go.Proofs.Ytkplhobiciddoaa
