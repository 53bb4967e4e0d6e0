/- QueueTop's walk. -/
import Derived.Test.YtingeijodooocaaQuG
namespace Go.Proofs.Ytingeijodooocaa
open Go.RowKit
set_option maxRecDepth 100000 in
set_option maxHeartbeats 8000000 in
theorem queueTop_any (A : Option Addr) (n cap : Nat) (l : List Wt) (w : World) (h : SlG 3 fW w A n l) (hok : ∀ x ∈ l, okW x) (hn : n ≤ maxLen) :
    Calls Try.prog 3 #[.slice A n cap] w fun e w' => e = .returned (.bool true) ∧ Below w.heap.size w w' := by
  have HS := hid h
  have HOK := hid hok
  have HL : Hid (n = l.length) := h.1
  have hnb : (n : Int) ≤ 9223372036854775807 := by unfold maxLen at hn; omega
  clear h hok hn
  go_enter Try.func3, Try.ntmps3
  go_wp2_with fail
  refine (awake_q w).mono ?_
  rintro e w1 ⟨rfl, hb1⟩
  have B1 := hid hb1
  clear hb1
  by_cases h3 : (300 : Int) < (n : Int)
  · go_wp2_with fail
    refine (awake_q w1).mono ?_
    rintro e w2 ⟨rfl, hb2⟩
    have B2 := B1.out.trans (hb2.mono B1.out.size)
    go_wp2
    go_ret
    exact ⟨rfl, B2⟩
  have HN : Hid (n ≤ 300) := by unfold Hid; omega
  go_wp2_with fail
  refine (qs_new B1.out).mono ?_
  rintro e w2 ⟨rfl, hq⟩
  obtain ⟨q, hqe⟩ : ∃ q, q = w1.heap.size := ⟨_, rfl⟩
  rw [← hqe] at hq ⊢
  have HQ0 : Hid (QS w w2 q [] 0 ∧ 0 = bestL []) := ⟨hq, rfl⟩
  clear hq hqe
  go_wp2_with fail
  go_loopw [4, 5] (fun bv iv wr => ∃ (i : Nat) (b : Int) (L : List Wt), i ≤ n ∧ bv = .int .i64 b ∧ iv = .int .i64 i ∧ Hid (QS w wr q L i ∧ b = bestL L)) (fun _ iv _ => n - (intOf iv).toNat)
  case atStart => exact ⟨0, 0, [], Nat.zero_le _, rfl, rfl, HQ0⟩
  case round =>
    clear HQ0
    obtain ⟨i, b, L, hi, rfl, rfl, HI⟩ := hrel
    by_cases hin : i < n
    · have HK1 : Hid (i + 1 ≤ n) := hin
      have HMS : Hid (n - (i + 1) < n - i) := by unfold Hid; omega
      have hii : (i : Int) < (n : Int) := by omega
      obtain ⟨u, hu⟩ : ∃ u, l[i]? = some u := ⟨_, List.getElem?_eq_getElem (by have := HL.out; omega)⟩
      obtain ⟨b0, off, rfl, hl, hc⟩ := HS.out.one HI.out.1.bel hu
      have c0 : wr.cell? ⟨b0, off + i * 3, none⟩ = some (.int .i64 u.job) := hc 0 (by omega)
      have c1 : wr.cell? ⟨b0, off + i * 3 + 1, none⟩ = some (.string u.ten) := hc 1 (by omega)
      have c2 : wr.cell? ⟨b0, off + i * 3 + 2, none⟩ = some (.int .i64 u.pri) := hc 2 (by omega)
      have hcall := qs_push HI.out.1 (v := u) (HOK.out u (List.mem_of_getElem? hu)).1 (by have := HN.out; omega)
      obtain ⟨e, he⟩ : ∃ e, e = errQ L u := ⟨_, rfl⟩
      rw [← he] at hcall
      have HE := hid he
      have HSI : Hid (∀ X, Below w.heap.size w X → b0 < X.heap.size ∧ X.cell? ⟨b0, off + i * 3 + 2, none⟩ = some (.int .i64 u.pri)) := fun X hX => by
        obtain ⟨b9, off9, e9, hl9, hc9⟩ := HS.out.one hX hu
        injection e9 with e9
        injection e9 with e9 e10
        subst e9 e10
        exact ⟨hl9, hc9 2 (by omega)⟩
      have HBL : Hid (b = bestL L) := HI.out.2
      unfold wtV at hcall
      clear hu hc hin hi he
      go_wp2_with fail
      refine hcall.mono ?_
      rintro e9 w5 ⟨rfl, hq5⟩
      have HQ5 := hid hq5
      obtain ⟨hl5, d2⟩ := HSI.out _ hq5.bel
      clear hcall hq5 c0 c1 c2 HI hl
      by_cases h0 : e = 0
      · subst h0
        have HF : Hid (QS w w5 q (pushQ L u) (i + 1) ∧ max b u.pri = bestL (pushQ L u)) := ⟨HQ5.out, by rw [bestL_push, if_pos HE.out.symm, HBL.out]⟩
        go_wp2
        go_roundw
        case rel => exact ⟨i + 1, max b u.pri, _, HK1.out, by first | rfl | go_num, by go_num, HF⟩
        case measure => have := HMS.out; simp [intOf]; omega
      · have HF : Hid (QS w w5 q (pushQ L u) (i + 1) ∧ b = bestL (pushQ L u)) := ⟨HQ5.out, by rw [bestL_push, if_neg (by rw [← HE.out]; exact h0), HBL.out]⟩
        go_wp2
        go_roundw
        case rel => exact ⟨i + 1, b, _, HK1.out, rfl, by go_num, HF⟩
        case measure => have := HMS.out; simp [intOf]; omega
    · obtain rfl : i = n := by omega
      have hii : ¬ (i : Int) < (i : Int) := by omega
      have HLN : Hid (L.length ≤ 300) := by have := HI.out.1.len.1; have := HN.out; unfold Hid; omega
      have hcall := qs_top HI.out.1
      rw [← HI.out.2] at hcall
      have HQ3 := hid HI.out.1
      have HBL : Hid (b = bestL L) := HI.out.2
      clear hi hin HI
      go_wp2_with fail
      refine hcall.mono ?_
      rintro e w3 ⟨vt, ks, rfl, hk, hrow, hb3⟩
      have HK := hid hk
      have HQ4 := hid (HQ3.out.below hb3)
      obtain ⟨m, hm⟩ : ∃ m, m = (topT L b ks).length := ⟨_, rfl⟩
      rw [← hm] at hrow
      have HM := hid hm
      obtain ⟨A3, cap3, rfl⟩ := rowR_shape hrow
      have HT3 := hid (SlG.of_row (by omega) hrow)
      clear hcall hk hrow hb3 hm HQ3
      have hcall := qs_tens HQ4.out
      go_wp2_with fail
      refine hcall.mono ?_
      rintro e w4 ⟨vs, ks2, rfl, hk2, hrow, hb4⟩
      obtain rfl := hk2.unique HK.out
      have HQ5 := hid (HQ4.out.below hb4)
      have HT4 := hid (HT3.out.below hb4)
      have hkl := IsTn.len HQ4.out.srt HK.out
      obtain ⟨N, hN⟩ : ∃ N, N = ks2.length := ⟨_, rfl⟩
      rw [← hN] at hrow
      have HNN : Hid (N = ks2.length ∧ N ≤ 300) := ⟨hN, by have := HLN.out; omega⟩
      have hNb : (N : Int) ≤ 300 := by have := HNN.out; omega
      obtain ⟨A4, cap4, rfl⟩ := rowR_shape hrow
      have HS4 := hid (SlG.of_row (by omega) hrow)
      have hmb : (m : Int) ≤ 300 := by
        have h1 : (topT L b ks2).length ≤ ks2.length := List.length_filter_le _ _
        have := HM.out
        have := HNN.out
        omega
      have HI5 : Hid (Below w4.heap.size w4 w4 ∧ 0 = (topT L b (ks2.take 0)).length) := ⟨Below.refl _ _, rfl⟩
      clear hcall hk2 hrow hb4 hkl hN HQ4 HT3
      go_wp2_with fail
      go_loopw [9, 10] (fun kv jv wr => ∃ (j k : Nat), j ≤ N ∧ kv = .int .i64 k ∧ jv = .int .i64 j ∧ Hid (Below w4.heap.size w4 wr ∧ k = (topT L b (ks2.take j)).length)) (fun _ jv _ => N - (intOf jv).toNat)
      case atStart => exact ⟨0, 0, Nat.zero_le _, rfl, rfl, HI5⟩
      case round =>
        clear HI5
        obtain ⟨j, k, hj, rfl, rfl, HI⟩ := hrel
        by_cases hjn : j < N
        · have HK1 : Hid (j + 1 ≤ N) := hjn
          have HMS : Hid (N - (j + 1) < N - j) := by unfold Hid; omega
          have hjj : (j : Int) < (N : Int) := by omega
          obtain ⟨t, ht⟩ : ∃ t, ks2[j]? = some t := ⟨_, List.getElem?_eq_getElem (by have := HNN.out.1; omega)⟩
          obtain ⟨b0, off, rfl, hl, c0⟩ := SlS.at_ HS4.out HI.out.1 ht
          obtain ⟨u, -, hp, -, -, hcall⟩ := (HQ5.out.below HI.out.1).heads HK.out ht
          have HP := hid hp
          have HT := hid ht
          obtain ⟨j0, t0, p⟩ := u
          simp only at hcall HP
          have hkb : (k : Int) ≤ 300 := by
            have h1 : (topT L b (ks2.take j)).length ≤ (ks2.take j).length := List.length_filter_le _ _
            rw [List.length_take] at h1
            have := HI.out.2
            omega
          clear ht hj hjn hp
          go_wp2_with fail
          refine hcall.mono ?_
          rintro e w7 ⟨rfl, hb7⟩
          have hs7 := hb7.size
          have HB7 : Hid (Below w4.heap.size w4 w7) := HI.out.1.trans (hb7.mono HI.out.1.size)
          obtain ⟨b9, off9, e9, hl7, c7⟩ := SlS.at_ HS4.out HB7.out HT.out
          injection e9 with e9
          injection e9 with e9 e10
          subst e9 e10
          have HKE : Hid (k = (topT L b (ks2.take j)).length) := HI.out.2
          clear hcall hb7 c0 HI hl hs7
          by_cases hpb : p = b
          · subst hpb
            have hts := topT_split HT.out HP.out
            rw [← HKE.out] at hts
            obtain ⟨b5, off5, rfl, hl5, c5⟩ := SlS.at_ HT4.out HB7.out hts
            have hkm : (k : Int) < (m : Int) := by
              have := (List.getElem?_eq_some_iff.1 hts).1
              have := HM.out
              omega
            have hg1 : decide (m ≤ k) = false := by simp; omega
            have hg2 : decide ((m : Int) ≤ (k : Int)) = false := by simp; omega
            obtain ⟨z, hz⟩ : ∃ z, z = bsK t := ⟨_, rfl⟩
            rw [← hz] at c5 c7
            have hz2 : (z.toList == z.toList) = true := by simp
            have HF : Hid (∀ X, Below w7.heap.size w7 X → Below w4.heap.size w4 X ∧ k + 1 = (topT L p (ks2.take (j + 1))).length) := fun X hX =>
              ⟨HB7.out.trans (hX.mono HB7.out.size), by rw [topT_take HT.out, if_pos HP.out, List.length_append, ← HKE.out]; rfl⟩
            clear hts hz
            go_upto_region 20 with (fail)
            go_quiet (fail)
            go_wp2
            go_roundw
            case rel => exact ⟨j + 1, k + 1, HK1.out, by go_num, by go_num, HF.out _ (by repeat (first | with_reducible assumption | with_reducible exact Below.refl _ _ | with_reducible refine Below.drew ?_ | with_reducible refine below_drewN ?_ _ | with_reducible refine below_alloc ?_ _ | with_reducible refine Below.alloc ?_ (by first | omega | (simp; done) | (simp; omega)) _ | with_reducible refine Below.setCell ?_ (by first | omega | (simp; done) | (simp; omega)) _ | with_reducible refine below_setRow ?_ (by first | omega | (simp; done) | (simp; omega)) _))⟩
            case measure => have := HMS.out; simp [intOf]; omega
          · have HF : Hid (∀ X, Below w7.heap.size w7 X → Below w4.heap.size w4 X ∧ k = (topT L b (ks2.take (j + 1))).length) := fun X hX =>
              ⟨HB7.out.trans (hX.mono HB7.out.size), by rw [topT_take HT.out, if_neg (by rw [HP.out]; exact hpb), ← HKE.out]⟩
            go_wp2
            go_roundw
            case rel => exact ⟨j + 1, k, HK1.out, by go_num, by go_num, HF.out _ (by repeat (first | with_reducible assumption | with_reducible exact Below.refl _ _ | with_reducible refine Below.drew ?_ | with_reducible refine below_drewN ?_ _ | with_reducible refine below_alloc ?_ _ | with_reducible refine Below.alloc ?_ (by first | omega | (simp; done) | (simp; omega)) _ | with_reducible refine Below.setCell ?_ (by first | omega | (simp; done) | (simp; omega)) _ | with_reducible refine below_setRow ?_ (by first | omega | (simp; done) | (simp; omega)) _))⟩
            case measure => have := HMS.out; simp [intOf]; omega
        · obtain rfl : j = N := by omega
          have hjj : ¬ (j : Int) < (j : Int) := by omega
          have hkm : (k : Int) = (m : Int) := by
            have h1 := HI.out.2
            rw [List.take_of_length_le (by rw [← HNN.out.1]; exact Nat.le_refl _), ← HM.out] at h1
            omega
          have hkm2 : ((k : Int) == (m : Int)) = true := by rw [hkm]; simp
          have FIN : Hid (Below w.heap.size w wr) := HQ5.out.bel.trans (HI.out.1.mono HQ5.out.bel.size)
          clear hj hjn HI
          go_wp2
          go_ret
          refine ⟨by simp, FIN.out⟩
end Go.Proofs.Ytingeijodooocaa
