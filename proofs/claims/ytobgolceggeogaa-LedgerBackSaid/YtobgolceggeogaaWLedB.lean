/- The walk of LedgerBack: what is taken can be given back. Asked: that the slices hold their lists. -/
import Derived.Test.YtobgolceggeogaaLedA
import Derived.Test.YtobgolceggeogaaLedB
import Derived.Test.YtobgolceggeogaaVecL
import Derived.Test.YtobgolceggeogaaLedN
namespace Go.Proofs.Ytobgolceggeogaa
open Go.RowKit
/-- The used amounts as they were. -/
def wasL (A : Acc) : Nat → List V
  | 0 => []
  | i + 1 => wasL A i ++ [usedOf A (nmI i).data.toList]
theorem wasL_len (A : Acc) : ∀ i, (wasL A i).length = i
  | 0 => rfl
  | i + 1 => by simp [wasL, wasL_len A i]
theorem wasL_at (A : Acc) : ∀ i k, k < i → ∀ h : k < (wasL A i).length, (wasL A i)[k] = usedOf A (nmI k).data.toList
  | 0, k, h, _ => by omega
  | i + 1, k, h, h' => by
    simp only [wasL]
    by_cases e : k < i
    · rw [List.getElem_append_left (by rw [wasL_len]; exact e)]
      exact wasL_at A i k e _
    · obtain rfl : k = i := by omega
      rw [List.getElem_append_right (by rw [wasL_len]; omega)]
      simp [wasL_len]
theorem ownsRow_kept {w w' : World} {L base n size : Nat} {e : TypeId} {v : Value} {xs : List Value} (h : KeptC w w' L) (hL : L < base) (ho : w.ownsRow base e size v n xs) : w'.ownsRow base e size v n xs := by
  obtain ⟨h0, h1 | ⟨g, cap, cur, rfl, hg, hh, rest⟩⟩ := ho
  · exact ⟨h0, .inl h1⟩
  · exact ⟨h0, .inr ⟨g, cap, cur, rfl, hg, h _ _ _ _ (by omega) hh, rest⟩⟩
theorem ownsRow_below {w w' : World} {base n size : Nat} {e : TypeId} {v : Value} {xs : List Value} (h : Below w.heap.size w w') (ho : w.ownsRow base e size v n xs) : w'.ownsRow base e size v n xs := by
  obtain ⟨h0, h1 | ⟨g, cap, cur, rfl, hg, hh, rest⟩⟩ := ho
  · exact ⟨h0, .inl h1⟩
  · exact ⟨h0, .inr ⟨g, cap, cur, rfl, hg, below_at h (lt_of_at hh) hh, rest⟩⟩
theorem drop_cons {l : List Ent} {j : Nat} (h : j < l.length) : l.drop j = l[j] :: l.drop (j + 1) := List.drop_eq_getElem_cons h
set_option maxHeartbeats 8000000 in
theorem ledgerBack_any (S0 S1 S2 : Option Addr) (n0 n1 n2 c0 c1 c2 : Nat) (lim : List V) (l1 l2 : List Ent) (w : World) (h0 : SlV w S0 n0 lim) (h1 : SlE w S1 n1 l1) (h2 : SlE w S2 n2 l2) :
    Calls Try.prog 6 #[.slice S0 n0 c0, .slice S1 n1 c1, .slice S2 n2 c2] w fun e w' => e = .returned (.bool true) ∧ Below w.heap.size w w' := by
  have e0 := h0.1
  have e1 := h1.1
  have e2 := h2.1
  go_enter Try.func6, Try.ntmps6
  go_wp2_with fail
  refine (awake_any w).mono ?_
  rintro e w1 ⟨rfl, hb1⟩
  have hs1 := hb1.size
  by_cases g0 : (n0 : Int) ≤ 20
  case neg =>
    go_wp2_with fail
    refine (awake_any w1).mono ?_
    rintro e w2 ⟨rfl, hb2⟩
    go_wp2
    go_ret
    exact ⟨rfl, hb1.trans (hb2.mono hs1)⟩
  by_cases g1 : (n1 : Int) ≤ 100
  case neg =>
    go_wp2_with fail
    refine (awake_any w1).mono ?_
    rintro e w2 ⟨rfl, hb2⟩
    go_wp2
    go_ret
    exact ⟨rfl, hb1.trans (hb2.mono hs1)⟩
  by_cases g2 : (n2 : Int) ≤ 100
  case neg =>
    go_wp2_with fail
    refine (awake_any w1).mono ?_
    rintro e w2 ⟨rfl, hb2⟩
    go_wp2
    go_ret
    exact ⟨rfl, hb1.trans (hb2.mono hs1)⟩
  go_wp2_with fail
  refine (new_b w.heap.size w1 hs1).mono ?_
  rintro e w2 ⟨rfl, hb2, hL2⟩
  have B2 : Below w.heap.size w w2 := hb1.trans (hb2.mono hs1)
  have hs2 := B2.size
  subst e0 e1 e2
  have HB : Hid (lim.length ≤ 20) := by unfold Hid; omega
  have HB1 : Hid (l1.length < maxLen) := by unfold Hid maxLen; omega
  have HB2 : Hid (l2.length < maxLen ∧ l2.length ≤ 100) := by unfold Hid maxLen; omega
  have H0 := hid h0
  have H1 := hid h1
  have H2 := hid h2
  have HL2 := hid hL2
  have hL1 : w1.heap.size < w2.heap.size := hL2.lt
  clear h0 h1 h2 hL2 hb2 g0 g1 g2
  rename_i Qx_ ha_ hb_ hc_ K1_ a1_ K0_ a0_
  clear ha_ hb_ hc_
  go_wp2
  go_loopw [8] (fun i wr => ∃ (k n : Nat) (A : Acc), k ≤ lim.length ∧ i = .int .i64 k ∧ Hid (LedB w.heap.size wr w1.heap.size n A) ∧ Below w.heap.size w wr) (fun i _ => lim.length - (intOf i).toNat)
  case atStart => exact ⟨0, 0, noA, Nat.zero_le _, rfl, HL2, B2⟩
  case round =>
    obtain ⟨k, n, A, hk, rfl, hL, hbel⟩ := hrel
    have hsr := hbel.size
    by_cases hkl : k < lim.length
    · have hk20 : k < 20 := by have := HB.out; omega
      have hcv := fun W => conv_nm k hk20 W
      have R1 : Hid (k + 1 ≤ lim.length) := hkl
      have M1 : Hid (lim.length - (k + 1) < lim.length - k) := by unfold Hid; omega
      have hk32 : (k : Int) ≤ 20 := by omega
      obtain ⟨-, rfl | ⟨g, off, rfl, hg, hh⟩⟩ := H0.out.below hbel
      · simp at hkl
      · have hv := hh k hkl
        generalize lim[k] = v at hv
        obtain ⟨x0, x1, x2, x3⟩ := v
        obtain ⟨v0, v1, v2, v3⟩ := hv
        clear hh hk20 hk
        go_wp2_with fail
        refine (open_b w.heap.size w1.heap.size n A (nmI k) x0 x1 x2 x3 wr hsr hL.out (nmI_size k)).mono ?_
        rintro e w4 ⟨rfl, hL4, hB4, -⟩
        have B4 : Below w.heap.size w w4 := hbel.trans hB4
        have HL4 := hid hL4
        clear hL4 hB4 v0 v1 v2 v3 hcv
        go_wp2
        go_roundw
        case rel => exact ⟨k + 1, _, _, R1.out, by go_num, HL4, B4⟩
        case measure =>
          have := M1.out
          simp [intOf]
          omega
    · obtain rfl : k = lim.length := by omega
      clear hkl hk
      obtain ⟨w3, rfl⟩ : ∃ w3 : World, w3 = wr := ⟨_, rfl⟩
      go_wp2_with fail
      refine (take_b w.heap.size w1.heap.size n A S1 l1.length c1 l1 w3 hsr hL.out HB1.out (H1.out.below hbel)).mono ?_
      rintro e w4 ⟨rfl, hL4, hB4, -⟩
      have B4 : Below w.heap.size w w4 := hbel.trans hB4
      have hs4 := B4.size
      generalize takeR A l1 = A1 at hL4
      have HL4 := hid hL4
      have hLlt := hL4.lt
      clear hL4 hB4 hL
      go_wp2
      go_loopw [9, 10] (fun v i wr => ∃ k : Nat, k ≤ lim.length ∧ i = .int .i64 k ∧ Hid (wr.ownsRow w4.heap.size 29 4 v k (flatV (wasL A1 k))) ∧ Below w4.heap.size w4 wr) (fun _ i _ => lim.length - (intOf i).toNat)
      case atStart => exact ⟨0, Nat.zero_le _, rfl, World.ownsRow_nil _ _ _ _, Below.refl _ _⟩
      case round =>
        obtain ⟨k, hk, rfl, hown, hbel4⟩ := hrel
        have hsr4 := hbel4.size
        by_cases hkl : k < lim.length
        · have hk20 : k < 20 := by have := HB.out; omega
          have hcv := fun W => conv_nm k hk20 W
          have R1 : Hid (k + 1 ≤ lim.length) := hkl
          have M1 : Hid (lim.length - (k + 1) < lim.length - k) := by unfold Hid; omega
          have hk32 : (k : Int) ≤ 20 := by omega
          have hLr := HL4.out.below hbel4
          clear hk
          go_wp2_with fail
          refine (used_b w.heap.size w1.heap.size n A1 (nmI k) wr hLr (nmI_size k)).mono ?_
          rintro e w5 ⟨rfl, hb5⟩
          obtain ⟨u, hu⟩ : ∃ u, u = usedOf A1 (nmI k).data.toList := ⟨_, rfl⟩
          rw [← hu]
          obtain ⟨u0, u1, u2, u3⟩ := u
          unfold vv
          have hs5 := hb5.size
          obtain ⟨v', w6, happ, hown6, hb6⟩ := app_vec (W := w5.alloc (.cells #[.int .i64 u0, .int .i64 u1, .int .i64 u2, .int .i64 u3] 29)) (wasL_len A1 k).symm ((ownsRow_below hb5 hown.out).alloc _) (by omega) (by simp; omega) u0 u1 u2 u3
          rw [hu] at hown6
          have HO6 : Hid (w6.ownsRow w4.heap.size 29 4 v' (k + 1) (flatV (wasL A1 (k + 1)))) := hown6
          have B6 : Below w4.heap.size w4 w6 := (hbel4.trans (hb5.mono hsr4)).trans (Below.trans ((Below.refl _ _).alloc (by omega) _) hb6)
          simp only [World.size_alloc] at happ
          have HAPP := hid happ
          clear happ hown6 hown hu hb5 hb6 hLr hk20
          go_wp2_with (at_builtin; refine wpList_append_eq rfl _ _ _ rfl rfl rfl HAPP.out ?_)
          go_roundw
          case rel => exact ⟨k + 1, R1.out, by go_num, HO6, B6⟩
          case measure =>
            have := M1.out
            simp [intOf]
            omega
        · obtain rfl : k = lim.length := by omega
          clear hkl hk
          obtain ⟨w7, rfl⟩ : ∃ w7 : World, w7 = wr := ⟨_, rfl⟩
          have B7 : Below w.heap.size w w7 := B4.trans (hbel4.mono hs4)
          have hs7 := B7.size
          have hL7 := HL4.out.below hbel4
          have hinv := hL7.2.1
          obtain ⟨WA, capW, rfl, -⟩ := slV_of_own (wasL_len A1 lim.length).symm hown.out
          have WASAT : Hid (∀ k, k < lim.length → ∀ h : k < (wasL A1 lim.length).length, (wasL A1 lim.length)[k] = usedOf A1 (nmI k).data.toList) := fun k hk h => wasL_at A1 _ k hk h
          go_wp2_with fail
          refine (take_b w.heap.size w1.heap.size n A1 S2 l2.length c2 l2 w7 hs7 hL7 HB2.out.1 (H2.out.below B7)).mono ?_
          rintro e w8 ⟨rfl, hL8, hB8, hK8⟩
          have B8 : Below w.heap.size w w8 := B7.trans hB8
          have hs8 := B8.size
          obtain ⟨q, hqe⟩ : ∃ q, q = takeE A1 l2 := ⟨_, rfl⟩
          rw [← hqe]
          by_cases hq : q = 0
          · have T : Hid (Taken A1 l2) := taken_of hinv (hqe.symm.trans hq)
            rw [T.out.takeR] at hL8
            have HL8 := hid hL8
            have HK8 := hid hK8
            subst hq
            clear hqe hL8 hK8 hinv hL7 hB8
            go_wp2
            go_loopw [13] (fun i wr => ∃ j : Nat, j ≤ l2.length ∧ i = .int .i64 j ∧ Hid (LedB w.heap.size wr w1.heap.size n (stepA A1 (l2.drop j))) ∧ Below w.heap.size w wr ∧ Hid (KeptC w7 wr w1.heap.size)) (fun i _ => l2.length - (intOf i).toNat)
            case atStart => exact ⟨0, Nat.zero_le _, rfl, HL8, B8, HK8⟩
            case round =>
              obtain ⟨j, hj, rfl, hLj, hbelj, hKj⟩ := hrel
              have hsj := hbelj.size
              by_cases hjl : j < l2.length
              · have R1 : Hid (j + 1 ≤ l2.length) := hjl
                have M1 : Hid (l2.length - (j + 1) < l2.length - j) := by unfold Hid; omega
                have hj100 : (j : Int) ≤ 100 := by have := HB2.out.2; omega
                have hokj : okV l2[j].2 = true := List.all_eq_true.1 T.out.form _ (List.getElem_mem hjl)
                have hacc := T.out.acct _ (List.getElem_mem hjl)
                have hrest : ∀ x ∈ l2.drop (j + 1), okV x.2 = true := fun x hx => List.all_eq_true.1 T.out.form _ (List.mem_of_mem_drop hx)
                obtain ⟨g1, g2⟩ := give_one T.out.inv hokj hrest hacc
                have hLj2 := hLj.out
                rw [drop_cons hjl] at hLj2
                obtain ⟨-, rfl | ⟨g, off, rfl, hg, hh⟩⟩ := H2.out.below hbelj
                · simp at hjl
                · have hv := hh j hjl
                  generalize l2[j] = v at hv g1 g2 hLj2
                  obtain ⟨sv, x0, x1, x2, x3⟩ := v
                  obtain ⟨hsv, vs, v0, v1, v2, v3⟩ := hv
                  clear hh hj hokj hacc hrest
                  go_wp2_with fail
                  refine (give_b w.heap.size w1.heap.size n _ (some ⟨wr.heap.size, 0, none⟩) 1 1 [(sv, x0, x1, x2, x3)] _ (by simp; omega) (hLj2.below ((Below.refl _ _).alloc (Nat.le_refl _) _)) (by unfold maxLen; simp) (holdsE_one hsv (alloc_at _ _))).mono ?_
                  rintro e w9 ⟨rfl, hL9, hB9, hK9⟩
                  rw [g1]
                  rw [g2] at hL9
                  have B9 : Below w.heap.size w w9 := Below.trans (hbelj.alloc hsj _) hB9
                  have HL9 := hid hL9
                  have HK9 : Hid (KeptC w7 w9 w1.heap.size) := hKj.out.trans (KeptC.trans (keptC_below ((Below.refl _ _).alloc (Nat.le_refl _) _) _) hK9)
                  clear hL9 hB9 hK9 vs v0 v1 v2 v3 hLj2 hsv
                  go_wp2
                  go_roundw
                  case rel => exact ⟨j + 1, R1.out, by go_num, HL9, B9, HK9⟩
                  case measure =>
                    have := M1.out
                    simp [intOf]
                    omega
              · obtain rfl : j = l2.length := by omega
                clear hjl hj
                have hLj2 := hLj.out
                rw [List.drop_length, stepA_nil] at hLj2
                go_wp2_with fail
                refine (take_b w.heap.size w1.heap.size n A1 S2 l2.length c2 l2 wr hsj hLj2 HB2.out.1 (H2.out.below hbelj)).mono ?_
                rintro e w10 ⟨rfl, hL10, hB10, hK10⟩
                rw [T.out.takes]
                rw [T.out.takeR] at hL10
                have B10 : Below w.heap.size w w10 := hbelj.trans hB10
                have hs10 := B10.size
                have HK10 : Hid (KeptC w7 w10 w1.heap.size) := hKj.out.trans hK10
                clear hB10 hK10 hLj2
                go_wp2_with fail
                refine (give_b w.heap.size w1.heap.size n _ S2 l2.length c2 l2 w10 hs10 hL10 HB2.out.1 (H2.out.below B10)).mono ?_
                rintro e wf ⟨rfl, hL11, hB11, hK11⟩
                obtain ⟨g1, g2⟩ := T.out.gives
                rw [g1]
                rw [g2] at hL11
                have BF : Below w.heap.size w wf := B10.trans hB11
                have hsf := BF.size
                have HLF := hid hL11
                have hownf := ownsRow_kept (HK10.out.trans hK11) (by omega) hown.out
                obtain ⟨WA', capW', heq, hsl⟩ := slV_of_own (wasL_len A1 lim.length).symm hownf
                cases heq
                have HWF := hid hsl
                clear hL11 hB11 hK11 hownf hsl g1 g2 hL10
                go_wp2
                go_loopw [14] (fun i wr => ∃ k : Nat, k ≤ lim.length ∧ i = .int .i64 k ∧ Below wf.heap.size wf wr) (fun i _ => lim.length - (intOf i).toNat)
                case atStart => exact ⟨0, Nat.zero_le _, rfl, Below.refl _ _⟩
                case round =>
                  obtain ⟨k, hk, rfl, hbel⟩ := hrel
                  have hsr := hbel.size
                  by_cases hkl : k < lim.length
                  · have hk20 : k < 20 := by have := HB.out; omega
                    have hcv := fun W => conv_nm k hk20 W
                    have hLr := HLF.out.below hbel
                    have Br : Below w.heap.size w wr := BF.trans (hbel.mono hsf)
                    have R1 : Hid (k + 1 ≤ lim.length) := hkl
                    have M1 : Hid (lim.length - (k + 1) < lim.length - k) := by unfold Hid; omega
                    have hk32 : (k : Int) ≤ 20 := by omega
                    obtain ⟨hwl, hnil | ⟨g, off, rfl, hg, hh⟩⟩ := HWF.out.below hbel
                    · rw [hnil, List.length_nil] at hwl
                      omega
                    · have hv := hh k (by rw [← hwl]; exact hkl)
                      rw [WASAT.out k hkl (by rw [← hwl]; exact hkl)] at hv
                      obtain ⟨v0, v1, v2, v3⟩ := hv
                      clear hh hwl
                      go_wp2_with fail
                      refine (used_b w.heap.size w1.heap.size n A1 (nmI k) wr hLr (nmI_size k)).mono ?_
                      rintro e w9 ⟨rfl, hb9⟩
                      obtain ⟨q9, hq9⟩ : ∃ q9 : Int, q9 = (if (A1 (nmI k).data.toList).isSome then 0 else 3) := ⟨_, rfl⟩
                      rw [← hq9]
                      clear hq9
                      obtain ⟨u, hu⟩ : ∃ u, u = usedOf A1 (nmI k).data.toList := ⟨_, rfl⟩
                      rw [← hu] at v0 v1 v2 v3
                      rw [← hu]
                      obtain ⟨u0, u1, u2, u3⟩ := u
                      simp only at v0 v1 v2 v3
                      unfold vv
                      have c0 : w9.cell? ⟨g, off + k * 4, none⟩ = some (.int .i64 u0) := by rw [hb9.cell hg]; exact v0
                      have c1 : w9.cell? ⟨g, off + k * 4 + 1, none⟩ = some (.int .i64 u1) := by rw [hb9.cell hg]; exact v1
                      have c2 : w9.cell? ⟨g, off + k * 4 + 2, none⟩ = some (.int .i64 u2) := by rw [hb9.cell hg]; exact v2
                      have c3 : w9.cell? ⟨g, off + k * 4 + 3, none⟩ = some (.int .i64 u3) := by rw [hb9.cell hg]; exact v3
                      have B9 : Below wf.heap.size wf w9 := hbel.trans (hb9.mono hsr)
                      have hs9 := B9.size
                      have hg9 : g < w9.heap.size := Nat.lt_of_lt_of_le hg hb9.size
                      clear hu v0 v1 v2 v3 hb9 hLr hk20 hk
                      go_wp2
                      go_quiet (fail)
                      go_wp2
                      go_roundw
                      case rel => exact ⟨k + 1, R1.out, by go_num, (by repeat (first | with_reducible assumption | with_reducible exact Below.refl _ _ | with_reducible refine Below.drew ?_ | with_reducible refine below_drewN ?_ _ | with_reducible refine below_alloc ?_ _ | with_reducible refine Below.alloc ?_ (by first | omega | (simp; done) | (simp; omega)) _ | with_reducible refine Below.setCell ?_ (by first | omega | (simp; done) | (simp; omega)) _ | with_reducible refine below_setRow ?_ (by first | omega | (simp; done) | (simp; omega)) _))⟩
                      case measure =>
                        have := M1.out
                        simp [intOf]
                        omega
                  · obtain rfl : k = lim.length := by omega
                    clear hkl hk
                    go_wp2
                    go_ret
                    exact ⟨rfl, BF.trans (hbel.mono hsf)⟩
          · have hst : takeR A1 l2 = A1 := by unfold takeR; rw [if_neg (by rw [← hqe]; exact hq)]
            rw [hst] at hL8
            obtain ⟨wf, rfl⟩ : ∃ wf : World, wf = w8 := ⟨_, rfl⟩
            have BF := B8
            have hsf := hs8
            have HLF := hid hL8
            have hownf := ownsRow_kept hK8 (by omega) hown.out
            obtain ⟨WA', capW', heq, hsl⟩ := slV_of_own (wasL_len A1 lim.length).symm hownf
            cases heq
            have HWF := hid hsl
            clear hL8 hB8 hK8 hownf hsl hqe hst hL7 hinv
            go_upto_region 23 with fail
            rename (q == 0) = false => hz
            clear hq hz
            go_wp2
            go_loopw [14] (fun i wr => ∃ k : Nat, k ≤ lim.length ∧ i = .int .i64 k ∧ Below wf.heap.size wf wr) (fun i _ => lim.length - (intOf i).toNat)
            case atStart => exact ⟨0, Nat.zero_le _, rfl, Below.refl _ _⟩
            case round =>
              obtain ⟨k, hk, rfl, hbel⟩ := hrel
              have hsr := hbel.size
              by_cases hkl : k < lim.length
              · have hk20 : k < 20 := by have := HB.out; omega
                have hcv := fun W => conv_nm k hk20 W
                have hLr := HLF.out.below hbel
                have Br : Below w.heap.size w wr := BF.trans (hbel.mono hsf)
                have R1 : Hid (k + 1 ≤ lim.length) := hkl
                have M1 : Hid (lim.length - (k + 1) < lim.length - k) := by unfold Hid; omega
                have hk32 : (k : Int) ≤ 20 := by omega
                obtain ⟨hwl, hnil | ⟨g, off, rfl, hg, hh⟩⟩ := HWF.out.below hbel
                · rw [hnil, List.length_nil] at hwl
                  omega
                · have hv := hh k (by rw [← hwl]; exact hkl)
                  rw [WASAT.out k hkl (by rw [← hwl]; exact hkl)] at hv
                  obtain ⟨v0, v1, v2, v3⟩ := hv
                  clear hh hwl
                  go_wp2_with fail
                  refine (used_b w.heap.size w1.heap.size n A1 (nmI k) wr hLr (nmI_size k)).mono ?_
                  rintro e w9 ⟨rfl, hb9⟩
                  obtain ⟨q9, hq9⟩ : ∃ q9 : Int, q9 = (if (A1 (nmI k).data.toList).isSome then 0 else 3) := ⟨_, rfl⟩
                  rw [← hq9]
                  clear hq9
                  obtain ⟨u, hu⟩ : ∃ u, u = usedOf A1 (nmI k).data.toList := ⟨_, rfl⟩
                  rw [← hu] at v0 v1 v2 v3
                  rw [← hu]
                  obtain ⟨u0, u1, u2, u3⟩ := u
                  simp only at v0 v1 v2 v3
                  unfold vv
                  have c0 : w9.cell? ⟨g, off + k * 4, none⟩ = some (.int .i64 u0) := by rw [hb9.cell hg]; exact v0
                  have c1 : w9.cell? ⟨g, off + k * 4 + 1, none⟩ = some (.int .i64 u1) := by rw [hb9.cell hg]; exact v1
                  have c2 : w9.cell? ⟨g, off + k * 4 + 2, none⟩ = some (.int .i64 u2) := by rw [hb9.cell hg]; exact v2
                  have c3 : w9.cell? ⟨g, off + k * 4 + 3, none⟩ = some (.int .i64 u3) := by rw [hb9.cell hg]; exact v3
                  have B9 : Below wf.heap.size wf w9 := hbel.trans (hb9.mono hsr)
                  have hs9 := B9.size
                  have hg9 : g < w9.heap.size := Nat.lt_of_lt_of_le hg hb9.size
                  clear hu v0 v1 v2 v3 hb9 hLr hk20 hk
                  go_wp2
                  go_quiet (fail)
                  go_wp2
                  go_roundw
                  case rel => exact ⟨k + 1, R1.out, by go_num, (by repeat (first | with_reducible assumption | with_reducible exact Below.refl _ _ | with_reducible refine Below.drew ?_ | with_reducible refine below_drewN ?_ _ | with_reducible refine below_alloc ?_ _ | with_reducible refine Below.alloc ?_ (by first | omega | (simp; done) | (simp; omega)) _ | with_reducible refine Below.setCell ?_ (by first | omega | (simp; done) | (simp; omega)) _ | with_reducible refine below_setRow ?_ (by first | omega | (simp; done) | (simp; omega)) _))⟩
                  case measure =>
                    have := M1.out
                    simp [intOf]
                    omega
              · obtain rfl : k = lim.length := by omega
                clear hkl hk
                go_wp2
                go_ret
                exact ⟨rfl, BF.trans (hbel.mono hsf)⟩
end Go.Proofs.Ytobgolceggeogaa
