/- Chapter 14's interval heap: paired, up. -/
import Derived.Test.YtingeijodooocaaMmW
import Derived.Test.YtingeijodooocaaMmB
namespace Go.Proofs.Ytingeijodooocaa
open Go.RowKit
variable {B H : Nat} {w w' : World} {va vk vs : Value} {S T : Mm}
/-- The order of handles as a relation. -/
def LtM (k : Nat → K3) (a b : Nat) : Prop := ltM k a b = true
/-- The same entries, at other places. -/
structure Kin (S T : Mm) : Prop where
  n : T.n = S.n
  m : T.m = S.m
  k : T.k = S.k
  live : ∀ x, T.s x = 0 ↔ S.s x = 0
theorem Kin.refl (S : Mm) : Kin S S := ⟨rfl, rfl, rfl, fun _ => Iff.rfl⟩
theorem Kin.trans {U : Mm} (h : Kin S T) (k : Kin T U) : Kin S U := ⟨k.n.trans h.n, k.m.trans h.m, k.k.trans h.k, fun x => (k.live x).trans (h.live x)⟩
theorem Lnk.kin {i j : Nat} (h : Lnk S) (hi : i < S.n) (hj : j < S.n) : Kin S (S.sw i j) := ⟨rfl, rfl, rfl, h.sw_live hi hj⟩
set_option maxRecDepth 20000 in
set_option maxHeartbeats 4000000 in
theorem mpaired_g {i : Nat} (h : MmV B w H va vk vs S) (hl : Lnk S) (hi : i < S.n) :
    Calls Try.prog 55 #[.pointer (some ⟨H, 0, none⟩), .int .i64 i] w fun e w' => ∃ (T : Mm) (i0 : Nat), e = .returned (.int .i64 i0) ∧ MmV B w' H va vk vs T ∧ Lnk T ∧ Kin S T ∧ Paired (LtM S.k) S.n S.e i T.e i0 ∧ i0 < S.n ∧ Tur (FootM H va vk vs) w w' := by
  obtain ⟨c0, -, -⟩ := h.head
  have hlH := h.ltH
  obtain ⟨g, cap, hva, -, hgl, -, -⟩ := rowI_cells h.ra (by omega)
  have hnb : S.n ≤ 1000000 := Nat.le_trans hl.nb hl.mb
  obtain ⟨a, ha⟩ : ∃ a, a = 2 * (i / 2) := ⟨_, rfl⟩
  have ba : bits .andNot .i64 (i : Int) 1 = (a : Int) := by rw [ha]; exact b_andNot i (by omega)
  have wa : IntKind.i64.wrap ((a : Int) + 1) = ((a + 1 : Nat) : Int) := by rw [IntWalk.i64_in _ (by omega)]; rfl
  have HH := hid h
  have HL := hid hl
  have HI := hid hi
  have HA := hid ha
  have HV := hid hva
  rw [hva] at c0
  by_cases q : a + 1 < S.n
  · have q1 : ((a + 1 : Nat) : Int) < (S.n : Int) := by omega
    have HLess : Hid (Calls Try.prog 56 #[.pointer (some ⟨H, 0, none⟩), .int .i64 ((a + 1 : Nat) : Int), .int .i64 (a : Int)] w fun e w' => e = .returned (.bool (ltM S.k (S.e (a + 1)) (S.e a))) ∧ Below w.heap.size w w') := mless_g h hl q (by omega)
    have HQ := hid q
    obtain ⟨b, hb⟩ : ∃ b, b = ltM S.k (S.e (a + 1)) (S.e a) := ⟨_, rfl⟩
    rw [← hb] at HLess
    have HB := hid hb
    clear h hl hi ha hva q hb
    cases b with
    | true =>
      have bx : bits .xor .i64 (i : Int) 1 = ((if i % 2 = 0 then i + 1 else i - 1 : Nat) : Int) := b_xor i (by have := HI.out; omega)
      obtain ⟨i0, hi0⟩ : ∃ i0, i0 = (if i % 2 = 0 then i + 1 else i - 1) := ⟨_, rfl⟩
      rw [← hi0] at bx
      have HI0 := hid hi0
      clear hi0
      go_enter Try.func55, Try.ntmps55
      go_wp2_with fail
      refine HLess.out.mono ?_
      rintro e w1 ⟨rfl, hb1⟩
      go_wp2_with fail
      have C1 := HH.out.below hb1
      refine (mswap_g C1 HL.out (i := a) (j := a + 1) (by have := HQ.out; omega) HQ.out).mono ?_
      rintro e w2 ⟨rfl, C2, T2⟩
      have HC2 := hid C2
      have HT2 := hid ((Tur.of_below hb1).then T2)
      clear C2 T2 C1 hb1
      go_wp2_with fail
      go_ret
      refine ⟨S.sw a (a + 1), i0, rfl, HC2.out, HL.out.sw (by have := HQ.out; omega) HQ.out, HL.out.kin (by have := HQ.out; omega) HQ.out, ?_, ?_, HT2.out⟩
      · have ha := HA.out
        have hlt : LtM S.k (S.e (a + 1)) (S.e a) := HB.out.symm
        rw [HI0.out]
        by_cases q : i % 2 = 0
        · rw [if_pos q]
          have e : a = i := by omega
          subst e
          exact .even q HQ.out hlt
        · rw [if_neg q]
          have e : a = i - 1 := by omega
          have e2 : a + 1 = i := by omega
          rw [e2] at hlt ⊢
          rw [e] at hlt ⊢
          exact .odd (by omega) hlt
      · have ha := HA.out
        have hi := HI.out
        have hq := HQ.out
        rw [HI0.out]
        split <;> omega
    | false =>
      go_enter Try.func55, Try.ntmps55
      go_wp2_with fail
      refine HLess.out.mono ?_
      rintro e w1 ⟨rfl, hb1⟩
      go_wp2_with fail
      go_ret
      refine ⟨S, i, rfl, HH.out.below hb1, HL.out, Kin.refl S, .no (fun he hn => ?_) (fun ho => ?_), HI.out, Tur.of_below hb1⟩
      · have e : a = i := by have := HA.out; omega
        have := HB.out
        rw [e] at this
        intro x
        unfold LtM at x
        rw [x] at this
        cases this
      · have e : a = i - 1 := by have := HA.out; omega
        have e2 : a + 1 = i := by have := HA.out; omega
        have := HB.out
        rw [e2, e] at this
        intro x
        unfold LtM at x
        rw [x] at this
        cases this
  · have q1 : ¬ ((a + 1 : Nat) : Int) < (S.n : Int) := by omega
    have HQ := hid q
    clear h hl hi ha hva q
    go_enter Try.func55, Try.ntmps55
    go_wp2_with fail
    go_ret
    refine ⟨S, i, rfl, HH.out, HL.out, Kin.refl S, .no (fun he hn => ?_) (fun ho => ?_), HI.out, Tur.refl _ _⟩
    · have := HA.out
      have := HQ.out
      omega
    · have := HA.out
      have := HQ.out
      have := HI.out
      omega
set_option maxRecDepth 20000 in
set_option maxHeartbeats 8000000 in
theorem mup_g {i : Nat} (h : MmV B w H va vk vs S) (hl : Lnk S) (hi : i < S.n) :
    Calls Try.prog 43 #[.pointer (some ⟨H, 0, none⟩), .int .i64 i] w fun e w' => e = .returned (.tuple #[]) ∧ ∃ T, MmV B w' H va vk vs T ∧ Lnk T ∧ Kin S T ∧ PUp (LtM S.k) S.n S.e i T.e ∧ Tur (FootM H va vk vs) w w' := by
  have hnb : S.n ≤ 1000000 := Nat.le_trans hl.nb hl.mb
  have HNB := hid hnb
  have HP := hid (mpaired_g h hl hi)
  clear h hl hi hnb
  go_enter Try.func43, Try.ntmps43
  go_wp2_with fail
  refine HP.out.mono ?_
  rintro e w0 ⟨T0, i0, rfl, C0, L0, K0, P0, I0, R0⟩
  have H0 : Hid (i0 < S.n ∧ MmV B w0 H va vk vs T0 ∧ Lnk T0 ∧ Kin S T0 ∧ Tur (FootM H va vk vs) w w0) := ⟨I0, C0, L0, K0, R0⟩
  have HP0 := hid P0
  clear C0 L0 K0 P0 I0 R0 HP
  go_wp2
  go_loopw [1] (fun x wr => ∃ (k : Nat) (T : Mm), x = .int .i64 k ∧ Hid (k < S.n ∧ MmV B wr H va vk vs T ∧ Lnk T ∧ Kin S T ∧ (∀ e', Ups (LtM S.k) T.e k e' → Ups (LtM S.k) T0.e i0 e') ∧ Tur (FootM H va vk vs) w wr)) (fun x _ => (intOf x).toNat)
  case atStart => exact ⟨i0, T0, rfl, H0.out.1, H0.out.2.1, H0.out.2.2.1, H0.out.2.2.2.1, fun _ h => h, H0.out.2.2.2.2⟩
  case round =>
    obtain ⟨k, T, rfl, hh⟩ := hrel
    by_cases hk : k < 2
    · have hk2 : ¬ (2 : Int) ≤ (k : Int) := by omega
      have HK := hid hk
      clear hk
      go_wp2
      go_end0
      obtain ⟨h1, h2, h3, h4, h5, h6⟩ := hh.out
      exact ⟨rfl, T, h2, h3, h4, ⟨T0.e, i0, HP0.out, h5 _ (.top HK.out)⟩, h6⟩
    · have hk2 : (2 : Int) ≤ (k : Int) := by omega
      have hkn : k < S.n := hh.out.1
      have hnb := HNB.out
      obtain ⟨a, ha⟩ : ∃ a, a = k / 2 := ⟨_, rfl⟩
      obtain ⟨b, hb⟩ : ∃ b, b = a - 1 := ⟨_, rfl⟩
      obtain ⟨c, hc⟩ : ∃ c, c = b / 2 := ⟨_, rfl⟩
      obtain ⟨l, hll⟩ : ∃ l, l = lowp k := ⟨_, rfl⟩
      have hlc : l = c * 2 := by rw [hll, hc, hb, ha]; rfl
      have iw1 : (k : Int).tdiv 2 = (a : Int) := by rw [ha, Int.tdiv_eq_ediv_of_nonneg (by omega)]; omega
      have iwa : IntKind.i64.wrap (a : Int) = (a : Int) := IntWalk.i64_in _ (by omega)
      have iw2 : IntKind.i64.wrap ((a : Int) - 1) = (b : Int) := by rw [show (a : Int) - 1 = b by omega]; exact IntWalk.i64_in _ (by omega)
      have iw3 : (b : Int).tdiv 2 = (c : Int) := by rw [hc, Int.tdiv_eq_ediv_of_nonneg (by omega)]; omega
      have iwc : IntKind.i64.wrap (c : Int) = (c : Int) := IntWalk.i64_in _ (by omega)
      have iw4 : IntKind.i64.wrap ((c : Int) * 2) = (l : Int) := by rw [show (c : Int) * 2 = l by omega]; exact IntWalk.i64_in _ (by omega)
      have iw5 : IntKind.i64.wrap ((l : Int) + 1) = ((l + 1 : Nat) : Int) := IntWalk.i64_in _ (by omega)
      have hln : l + 1 < k := by rw [hll]; exact lowp_lt (by omega)
      have HL := hid (show k < S.n ∧ l + 1 < k ∧ l = lowp k ∧ 2 ≤ k from ⟨hkn, hln, hll, by omega⟩)
      have kn := hh.out.2.2.2.1
      obtain ⟨q, hq⟩ : ∃ q, q = ltM T.k (T.e k) (T.e l) := ⟨_, rfl⟩
      obtain ⟨q2, hq2⟩ : ∃ q2, q2 = ltM T.k (T.e (l + 1)) (T.e k) := ⟨_, rfl⟩
      have HQ := hid hq
      have HQ2 := hid hq2
      have HLess : Hid (∀ W, Below wr.heap.size wr W → Calls Try.prog 56 #[.pointer (some ⟨H, 0, none⟩), .int .i64 (k : Int), .int .i64 (l : Int)] W fun e w' => e = .returned (.bool q) ∧ Below W.heap.size W w') := fun W hb => by
        rw [hq]; exact mless_g (hh.out.2.1.below hb) hh.out.2.2.1 (by rw [kn.n]; exact hkn) (by rw [kn.n]; omega)
      have HLess2 : Hid (∀ W, Below wr.heap.size wr W → Calls Try.prog 56 #[.pointer (some ⟨H, 0, none⟩), .int .i64 ((l + 1 : Nat) : Int), .int .i64 (k : Int)] W fun e w' => e = .returned (.bool q2) ∧ Below W.heap.size W w') := fun W hb => by
        rw [hq2]; exact mless_g (hh.out.2.1.below hb) hh.out.2.2.1 (by rw [kn.n]; omega) (by rw [kn.n]; exact hkn)
      have HKN := hid kn
      clear ha hb hc hll hlc hln kn hq hq2 hkn hnb hk
      go_wp2_with fail
      refine (HLess.out _ (Below.refl _ _)).mono ?_
      rintro e w1 ⟨rfl, hb1⟩
      have HB1 := hid hb1
      clear hb1
      cases q with
      | true =>
        go_wp2_with fail
        refine (mswap_g (hh.out.2.1.below HB1.out) hh.out.2.2.1 (i := k) (j := l) (by rw [HKN.out.n]; exact HL.out.1) (by rw [HKN.out.n]; have := HL.out; omega)).mono ?_
        rintro e w2 ⟨rfl, C2, T2⟩
        have HC2 := hid C2
        have HT2 := hid T2
        clear C2 T2
        go_wp2
        go_roundw
        case rel =>
          obtain ⟨h1, h2, h3, h4, h5, h6⟩ := hh.out
          obtain ⟨g1, g2, g3, g4⟩ := HL.out
          refine ⟨l, T.sw k l, rfl, by omega, HC2.out, h3.sw (by rw [h4.n]; exact g1) (by rw [h4.n]; omega), h4.trans (h3.kin (by rw [h4.n]; exact g1) (by rw [h4.n]; omega)), fun e' he => h5 e' ?_, (h6.then (Tur.of_below HB1.out)).then HT2.out⟩
          have hlt : LtM S.k (T.e k) (T.e (lowp k)) := by rw [← g3, ← h4.k]; exact HQ.out.symm
          refine .low g4 hlt ?_
          rw [← g3]; exact he
        case measure =>
          have := HL.out
          simp [intOf]; omega
      | false =>
        go_wp2_with fail
        refine (HLess2.out _ HB1.out).mono ?_
        rintro e w2 ⟨rfl, hb2⟩
        have HB2 := hid (HB1.out.trans (hb2.mono HB1.out.size))
        clear hb2
        cases q2 with
        | false =>
          go_wp2
          refine bodyPost_ret (results_none rfl _ _ _) rfl ?_
          obtain ⟨h1, h2, h3, h4, h5, h6⟩ := hh.out
          obtain ⟨g1, g2, g3, g4⟩ := HL.out
          refine ⟨rfl, T, h2.below HB2.out, h3, h4, ⟨T0.e, i0, HP0.out, h5 _ (.stop g4 ?_ ?_)⟩, h6.then (Tur.of_below HB2.out)⟩
          · rw [← g3, ← h4.k]
            intro x
            unfold LtM at x
            rw [← HQ.out] at x; cases x
          · rw [← g3, ← h4.k]
            intro x
            unfold LtM at x
            rw [← HQ2.out] at x; cases x
        | true =>
          go_wp2_with fail
          refine (mswap_g (hh.out.2.1.below HB2.out) hh.out.2.2.1 (i := k) (j := l + 1) (by rw [HKN.out.n]; exact HL.out.1) (by rw [HKN.out.n]; have := HL.out; omega)).mono ?_
          rintro e w3 ⟨rfl, C2, T2⟩
          have HC2 := hid C2
          have HT2 := hid T2
          clear C2 T2
          go_wp2
          go_roundw
          case rel =>
            obtain ⟨h1, h2, h3, h4, h5, h6⟩ := hh.out
            obtain ⟨g1, g2, g3, g4⟩ := HL.out
            refine ⟨l + 1, T.sw k (l + 1), rfl, by omega, HC2.out, h3.sw (by rw [h4.n]; exact g1) (by rw [h4.n]; omega), h4.trans (h3.kin (by rw [h4.n]; exact g1) (by rw [h4.n]; omega)), fun e' he => h5 e' ?_, (h6.then (Tur.of_below HB2.out)).then HT2.out⟩
            refine .high g4 ?_ ?_ ?_
            · rw [← g3, ← h4.k]
              intro x
              unfold LtM at x
              rw [← HQ.out] at x; cases x
            · rw [← g3, ← h4.k]; exact HQ2.out.symm
            · rw [← g3]; exact he
          case measure =>
            have := HL.out
            simp [intOf]; omega
end Go.Proofs.Ytingeijodooocaa
