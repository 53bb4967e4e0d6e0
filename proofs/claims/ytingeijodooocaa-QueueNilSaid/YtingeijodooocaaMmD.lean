/- Chapter 14's interval heap: down (gen14.py). -/
import Derived.Test.YtingeijodooocaaMmX
namespace Go.Proofs.Ytingeijodooocaa
open Go.RowKit
theorem idx2a (X Y : Int) (W : World) : (Instr.index 118 (.agg #[.int .i64 X, .int .i64 Y]) (.int .i64 0)).run Try.prog W = .ok (.int .i64 X) W := by
  simp [Instr.index, run_underlying Try.underlying118, asIntOf, go_sem]
theorem idx2b (X Y : Int) (W : World) : (Instr.index 118 (.agg #[.int .i64 X, .int .i64 Y]) (.int .i64 1)).run Try.prog W = .ok (.int .i64 Y) W := by
  simp [Instr.index, run_underlying Try.underlying118, asIntOf, go_sem]
attribute [local go_sem] idx2a idx2b
variable {B H : Nat} {w w' : World} {va vk vs : Value} {S T : Mm}
theorem Best.gt {L : Nat → Nat → Prop} {n i b : Nat} {hi : Bool} {e : Nat → Nat} (h : Best L n hi e i b) (hb : b ≠ i) : i < b ∧ b < n := by
  have hc : ∀ q, cand n hi q = 2 * q ∨ cand n hi q = 2 * q + 1 := fun q => by unfold cand; split <;> simp only [true_or, or_true]
  obtain ⟨m, h1, h2⟩ := h
  have hc1 := hc (2 * (i / 2) + 1)
  have hc2 := hc (2 * (i / 2) + 2)
  obtain ⟨c1, hq1⟩ : ∃ c, c = cand n hi (2 * (i / 2) + 1) := ⟨_, rfl⟩
  obtain ⟨c2, hq2⟩ : ∃ c, c = cand n hi (2 * (i / 2) + 2) := ⟨_, rfl⟩
  rw [← hq1] at h1 hc1
  rw [← hq2] at h2 hc2
  cases h1 <;> cases h2 <;> omega
theorem Pick.le {L : Nat → Nat → Prop} {n b c r : Nat} {hi : Bool} {e : Nat → Nat} (h : Pick L n hi e b c r) (hb : b < n) : r < n := by
  cases h <;> assumption
/-- The inner loop, under way. -/
structure Inn (L : Nat → Nat → Prop) (n : Nat) (hi : Bool) (e : Nat → Nat) (k r m : Nat) : Prop where
  r2 : r ≤ 2
  mn : m < n
  s0 : r = 0 → m = k
  s1 : r = 1 → Pick L n hi e k (cand n hi (2 * (k / 2) + 1)) m
  s2 : r = 2 → Best L n hi e k m
theorem Inn.one {L : Nat → Nat → Prop} {n k m m' : Nat} {hi : Bool} {e : Nat → Nat} (h : Inn L n hi e k 0 m) (p : Pick L n hi e m (cand n hi (2 * (k / 2) + 1)) m') : Inn L n hi e k 1 m' := by
  have := h.s0 rfl
  subst this
  exact ⟨by omega, p.le h.mn, fun x => by omega, fun _ => p, fun x => by omega⟩
theorem Inn.two {L : Nat → Nat → Prop} {n k m m' : Nat} {hi : Bool} {e : Nat → Nat} (h : Inn L n hi e k 1 m) (p : Pick L n hi e m (cand n hi (2 * (k / 2) + 2)) m') : Inn L n hi e k 2 m' :=
  ⟨by omega, p.le h.mn, fun x => by omega, fun x => by omega, fun _ => ⟨m, h.s1 rfl, p⟩⟩
theorem cand_lo {n q : Nat} : cand n false q = 2 * q := by unfold cand; simp
theorem cand_hi1 {n q : Nat} (h : 2 * q + 1 < n) : cand n true q = 2 * q + 1 := if_pos ⟨rfl, h⟩
theorem cand_hi0 {n q : Nat} (h : ¬ 2 * q + 1 < n) : cand n true q = 2 * q := if_neg fun x => h x.2
set_option maxRecDepth 20000 in
set_option maxHeartbeats 16000000 in
theorem mdownL_g {i : Nat} (h : MmV B w H va vk vs S) (hl : Lnk S) (hi : i < S.n) (hp : i % 2 = 0) :
    Calls Try.prog 70 #[.pointer (some ⟨H, 0, none⟩), .int .i64 i] w fun e w' => e = .returned (.tuple #[]) ∧ ∃ T, MmV B w' H va vk vs T ∧ Lnk T ∧ Kin S T ∧ Dns (LtM S.k) S.n false S.e i T.e ∧ Tur (FootM H va vk vs) w w' := by
  have hnb : S.n ≤ 1000000 := Nat.le_trans hl.nb hl.mb
  have HNB := hid hnb
  have hlH := h.ltH
  obtain ⟨g, cap, hva, -⟩ := rowI_cells h.ra (by omega)
  have HVA := hid hva
  have b1 : bits .and .i64 (i : Int) 1 = 0 := by rw [b_and i (by omega), hp]; rfl
  have H0 : Hid (i < S.n ∧ MmV B w H va vk vs S ∧ Lnk S) := ⟨hi, h, hl⟩
  clear h hl hi hnb hva hp
  go_enter Try.func70, Try.ntmps70
  go_wp2
  go_loopw [1] (fun x wr => ∃ (k : Nat) (T : Mm), x = .int .i64 k ∧ Hid (k < S.n ∧ MmV B wr H va vk vs T ∧ Lnk T ∧ Kin S T ∧ (∀ e', Dns (LtM S.k) S.n false T.e k e' → Dns (LtM S.k) S.n false S.e i e') ∧ Tur (FootM H va vk vs) w wr)) (fun x _ => S.n - (intOf x).toNat)
  case atStart => exact ⟨i, S, rfl, H0.out.1, H0.out.2.1, H0.out.2.2, Kin.refl S, fun _ h => h, Tur.refl _ _⟩
  case round =>
    obtain ⟨k, T, rfl, hh⟩ := hrel
    rename World => wo
    clear b1
    have hkn : k < S.n := hh.out.1
    have hnb := HNB.out
    obtain ⟨a, ha⟩ : ∃ a, a = k / 2 := ⟨_, rfl⟩
    obtain ⟨p, hp⟩ : ∃ p, p = a * 4 := ⟨_, rfl⟩
    obtain ⟨c1, hc1⟩ : ∃ c, c = p + 2 := ⟨_, rfl⟩
    obtain ⟨c2, hc2⟩ : ∃ c, c = p + 4 := ⟨_, rfl⟩
    have iw1 : (k : Int).tdiv 2 = (a : Int) := by rw [ha, Int.tdiv_eq_ediv_of_nonneg (by omega)]; omega
    have iwa : IntKind.i64.wrap (a : Int) = (a : Int) := IntWalk.i64_in _ (by omega)
    have iw2 : IntKind.i64.wrap ((a : Int) * 4) = (p : Int) := by rw [show (a : Int) * 4 = p by omega]; exact IntWalk.i64_in _ (by omega)
    have iw3 : IntKind.i64.wrap ((p : Int) + 2) = (c1 : Int) := by rw [show (p : Int) + 2 = c1 by omega]; exact IntWalk.i64_in _ (by omega)
    have iw4 : IntKind.i64.wrap ((p : Int) + 4) = (c2 : Int) := by rw [show (p : Int) + 4 = c2 by omega]; exact IntWalk.i64_in _ (by omega)
    have HC : Hid (c1 = 4 * (k / 2) + 2 ∧ c2 = 4 * (k / 2) + 4 ∧ k < S.n) := ⟨by omega, by omega, hkn⟩
    clear hc1 hc2 ha hp hkn hnb
    go_wp2
    go_loopw [22, 5] (fun x y wr => ∃ (r m : Nat), x = .int .i64 r ∧ y = .int .i64 m ∧ Hid (Below wo.heap.size wo wr ∧ Inn (LtM S.k) S.n false T.e k r m)) (fun x _ _ => 2 - (intOf x).toNat)
    case atStart => exact ⟨0, k, rfl, rfl, Below.refl _ _, by omega, HC.out.2.2, fun _ => rfl, fun x => by omega, fun x => by omega⟩
    case round =>
      obtain ⟨r, m, rfl, rfl, hr⟩ := hrel
      clear iw1 iwa iw2 iw3 iw4
      have c0 : wr.cell? ⟨H, 0, none⟩ = some (.slice (some ⟨g, 0, none⟩) S.n cap) := by
        have hx := (hh.out.2.1.below hr.out.1).head.1
        rw [hx, HVA.out]
      have hlH1 : H < wr.heap.size := (hh.out.2.1.below hr.out.1).ltH
      have hr2 : r = 0 ∨ r = 1 ∨ r = 2 := by have := hr.out.2.r2; omega
      rcases hr2 with rfl | rfl | rfl
      · have HC := hid HC.out
        by_cases hcn : c1 < S.n
        · have hcn2 : ¬ (S.n : Int) ≤ ((c1 : Nat) : Int) := by omega
          have HCN := hid hcn
          obtain ⟨q, hq⟩ : ∃ q, q = ltM T.k (T.e (c1)) (T.e m) := ⟨_, rfl⟩
          have HQ := hid hq
          have HLess : Hid (∀ W, Below wr.heap.size wr W → Calls Try.prog 56 #[.pointer (some ⟨H, 0, none⟩), .int .i64 ((c1 : Nat) : Int), .int .i64 (m : Int)] W fun e w' => e = .returned (.bool q) ∧ Below W.heap.size W w') := fun W hb => by
            rw [hq]; exact mless_g ((hh.out.2.1.below hr.out.1).below hb) hh.out.2.2.1 (i := c1) (j := m) (by rw [hh.out.2.2.2.1.n]; exact hcn) (by rw [hh.out.2.2.2.1.n]; exact hr.out.2.mn)
          clear hcn hq
          go_wp2_with fail
          refine (HLess.out _ (by first | exact Below.refl _ _ | exact (by repeat (first | with_reducible assumption | with_reducible exact Below.refl _ _ | with_reducible refine Below.drew ?_ | with_reducible refine below_drewN ?_ _ | with_reducible refine below_alloc ?_ _ | with_reducible refine Below.alloc ?_ (by first | omega | (simp; done) | (simp; omega)) _ | with_reducible refine Below.setCell ?_ (by first | omega | (simp; done) | (simp; omega)) _ | with_reducible refine below_setRow ?_ (by first | omega | (simp; done) | (simp; omega)) _)))).mono ?_
          rintro e w1 ⟨rfl, hb1⟩
          have HB1 := hid hb1
          clear hb1
          cases q with
          | true =>
            go_wp2
            go_roundw
            case rel =>
              refine ⟨1, c1, rfl, rfl, hr.out.1.trans (HB1.out.mono hr.out.1.size), hr.out.2.one ?_⟩
              rw [cand_lo, show 2 * (2 * (k / 2) + 1) = c1 by have := HC.out; omega]
              have hx := HQ.out
              rw [hh.out.2.2.2.1.k] at hx
              exact .yes HCN.out (by unfold Better; simp only [Bool.false_eq_true, if_false]; exact hx.symm)
            case measure => simp [intOf]
          | false =>
            go_wp2
            go_roundw
            case rel =>
              refine ⟨1, m, rfl, rfl, hr.out.1.trans (HB1.out.mono hr.out.1.size), hr.out.2.one ?_⟩
              rw [cand_lo, show 2 * (2 * (k / 2) + 1) = c1 by have := HC.out; omega]
              have hx := HQ.out
              rw [hh.out.2.2.2.1.k] at hx
              exact .no (fun _ x => by unfold Better at x; simp only [Bool.false_eq_true, if_false] at x; unfold LtM at x; rw [← hx] at x; cases x)
            case measure => simp [intOf]
        · have hcn2 : (S.n : Int) ≤ ((c1 : Nat) : Int) := by omega
          have HCN := hid hcn
          clear hcn
          go_wp2
          go_roundw
          case rel =>
            refine ⟨1, m, rfl, rfl, hr.out.1, hr.out.2.one ?_⟩
            rw [cand_lo, show 2 * (2 * (k / 2) + 1) = c1 by have := HC.out; omega]
            exact .no (fun x => absurd x HCN.out)
          case measure => simp [intOf]
      · have HC := hid HC.out
        by_cases hcn : c2 < S.n
        · have hcn2 : ¬ (S.n : Int) ≤ ((c2 : Nat) : Int) := by omega
          have HCN := hid hcn
          obtain ⟨q, hq⟩ : ∃ q, q = ltM T.k (T.e (c2)) (T.e m) := ⟨_, rfl⟩
          have HQ := hid hq
          have HLess : Hid (∀ W, Below wr.heap.size wr W → Calls Try.prog 56 #[.pointer (some ⟨H, 0, none⟩), .int .i64 ((c2 : Nat) : Int), .int .i64 (m : Int)] W fun e w' => e = .returned (.bool q) ∧ Below W.heap.size W w') := fun W hb => by
            rw [hq]; exact mless_g ((hh.out.2.1.below hr.out.1).below hb) hh.out.2.2.1 (i := c2) (j := m) (by rw [hh.out.2.2.2.1.n]; exact hcn) (by rw [hh.out.2.2.2.1.n]; exact hr.out.2.mn)
          clear hcn hq
          go_wp2_with fail
          refine (HLess.out _ (by first | exact Below.refl _ _ | exact (by repeat (first | with_reducible assumption | with_reducible exact Below.refl _ _ | with_reducible refine Below.drew ?_ | with_reducible refine below_drewN ?_ _ | with_reducible refine below_alloc ?_ _ | with_reducible refine Below.alloc ?_ (by first | omega | (simp; done) | (simp; omega)) _ | with_reducible refine Below.setCell ?_ (by first | omega | (simp; done) | (simp; omega)) _ | with_reducible refine below_setRow ?_ (by first | omega | (simp; done) | (simp; omega)) _)))).mono ?_
          rintro e w1 ⟨rfl, hb1⟩
          have HB1 := hid hb1
          clear hb1
          cases q with
          | true =>
            go_wp2
            go_roundw
            case rel =>
              refine ⟨2, c2, rfl, rfl, hr.out.1.trans (HB1.out.mono hr.out.1.size), hr.out.2.two ?_⟩
              rw [cand_lo, show 2 * (2 * (k / 2) + 2) = c2 by have := HC.out; omega]
              have hx := HQ.out
              rw [hh.out.2.2.2.1.k] at hx
              exact .yes HCN.out (by unfold Better; simp only [Bool.false_eq_true, if_false]; exact hx.symm)
            case measure => simp [intOf]
          | false =>
            go_wp2
            go_roundw
            case rel =>
              refine ⟨2, m, rfl, rfl, hr.out.1.trans (HB1.out.mono hr.out.1.size), hr.out.2.two ?_⟩
              rw [cand_lo, show 2 * (2 * (k / 2) + 2) = c2 by have := HC.out; omega]
              have hx := HQ.out
              rw [hh.out.2.2.2.1.k] at hx
              exact .no (fun _ x => by unfold Better at x; simp only [Bool.false_eq_true, if_false] at x; unfold LtM at x; rw [← hx] at x; cases x)
            case measure => simp [intOf]
        · have hcn2 : (S.n : Int) ≤ ((c2 : Nat) : Int) := by omega
          have HCN := hid hcn
          clear hcn
          go_wp2
          go_roundw
          case rel =>
            refine ⟨2, m, rfl, rfl, hr.out.1, hr.out.2.two ?_⟩
            rw [cand_lo, show 2 * (2 * (k / 2) + 2) = c2 by have := HC.out; omega]
            exact .no (fun x => absurd x HCN.out)
          case measure => simp [intOf]
      · have c0 := 0
        by_cases hmk : m = k
        · subst hmk
          go_wp2
          refine bodyPost_ret (results_none rfl _ _ _) rfl ?_
          obtain ⟨h1, h2, h3, h4, h5, h6⟩ := hh.out
          exact ⟨rfl, T, h2.below hr.out.1, h3, h4, h5 _ (.stop (hr.out.2.s2 rfl)), h6.then (Tur.of_below hr.out.1)⟩
        · have hmk2 : ((m : Int) == (k : Int)) = false := by simp; omega
          have HMK := hid hmk
          clear hmk
          go_wp2_with fail
          refine (mswap_g (hh.out.2.1.below hr.out.1) hh.out.2.2.1 (i := k) (j := m) (by rw [hh.out.2.2.2.1.n]; exact hh.out.1) (by rw [hh.out.2.2.2.1.n]; exact hr.out.2.mn)).mono ?_
          rintro e w2 ⟨rfl, C2, T2⟩
          have L2 := hh.out.2.2.1.sw (i := k) (j := m) (by rw [hh.out.2.2.2.1.n]; exact hh.out.1) (by rw [hh.out.2.2.2.1.n]; exact hr.out.2.mn)
          have K2 := hh.out.2.2.2.1.trans (hh.out.2.2.1.kin (i := k) (j := m) (by rw [hh.out.2.2.2.1.n]; exact hh.out.1) (by rw [hh.out.2.2.2.1.n]; exact hr.out.2.mn))
          obtain ⟨U, hU⟩ : ∃ U, U = T.sw k m := ⟨_, rfl⟩
          have hUe : U.e = swf T.e k m := by rw [hU]; rfl
          rw [← hU] at C2 L2 K2
          have HU : Hid (MmV B w2 H va vk vs U ∧ Lnk U ∧ Kin S U ∧ U.e = swf T.e k m ∧ Tur (FootM H va vk vs) w w2) := ⟨C2, L2, K2, hUe, (hh.out.2.2.2.2.2.then (Tur.of_below hr.out.1)).then T2⟩
          have c0 : w2.cell? ⟨H, 0, none⟩ = some (.slice (some ⟨g, 0, none⟩) S.n cap) := by rw [C2.head.1, HVA.out]
          have hlH2 := C2.ltH
          have hnb := HNB.out
          have hmn := hr.out.2.mn
          obtain ⟨a2, ha2⟩ : ∃ a, a = 2 * (m / 2) := ⟨_, rfl⟩
          have ba : bits .andNot .i64 (m : Int) 1 = (a2 : Int) := by rw [ha2]; exact b_andNot m (by omega)
          have wa : IntKind.i64.wrap ((a2 : Int) + 1) = ((a2 + 1 : Nat) : Int) := IntWalk.i64_in _ (by omega)
          have hmn2 : ¬ (S.n : Int) ≤ (m : Int) := by omega
          have HA2 := hid ha2
          by_cases hq : a2 + 1 < S.n
          · have hq1 : ((a2 + 1 : Nat) : Int) < (S.n : Int) := by omega
            have HQN := hid hq
            obtain ⟨q, hqq⟩ : ∃ q, q = ltM U.k (U.e (a2 + 1)) (U.e a2) := ⟨_, rfl⟩
            have HQ := hid hqq
            have HLess : Hid (∀ W, Below w2.heap.size w2 W → Calls Try.prog 56 #[.pointer (some ⟨H, 0, none⟩), .int .i64 ((a2 + 1 : Nat) : Int), .int .i64 (a2 : Int)] W fun e w' => e = .returned (.bool q) ∧ Below W.heap.size W w') := fun W hb => by
              rw [hqq]; exact mless_g (C2.below hb) L2 (i := a2 + 1) (j := a2) (by rw [K2.n]; exact hq) (by rw [K2.n]; omega)
            clear hU C2 T2 L2 K2 hUe hnb hmn ha2 hq hqq
            go_wp2_with fail
            refine (HLess.out _ (by first | exact Below.refl _ _ | exact (by repeat (first | with_reducible assumption | with_reducible exact Below.refl _ _ | with_reducible refine Below.drew ?_ | with_reducible refine below_drewN ?_ _ | with_reducible refine below_alloc ?_ _ | with_reducible refine Below.alloc ?_ (by first | omega | (simp; done) | (simp; omega)) _ | with_reducible refine Below.setCell ?_ (by first | omega | (simp; done) | (simp; omega)) _ | with_reducible refine below_setRow ?_ (by first | omega | (simp; done) | (simp; omega)) _)))).mono ?_
            rintro e w3 ⟨rfl, hb3⟩
            have HB3 := hid hb3
            have c03 : w3.cell? ⟨H, 0, none⟩ = some (.slice (some ⟨g, 0, none⟩) S.n cap) := by rw [(HU.out.1.below hb3).head.1, HVA.out]
            have hlH3 : H < w3.heap.size := (HU.out.1.below hb3).ltH
            clear hb3
            cases q with
            | true =>
              go_wp2_with fail
              refine (mswap_g (HU.out.1.below HB3.out) HU.out.2.1 (i := a2) (j := a2 + 1) (by rw [HU.out.2.2.1.n]; have := HQN.out; omega) (by rw [HU.out.2.2.1.n]; exact HQN.out)).mono ?_
              rintro e w4 ⟨rfl, C4, T4⟩
              have c04 : w4.cell? ⟨H, 0, none⟩ = some (.slice (some ⟨g, 0, none⟩) S.n cap) := by rw [C4.head.1, HVA.out]
              have hlH4 := C4.ltH
              have HC4 := hid C4
              have HT4 := hid T4
              clear C4 T4 c0 c03
              go_wp2
              go_roundw
              case rel =>
                obtain ⟨h1, h2, h3, h4, h5, h6⟩ := hh.out
                obtain ⟨u1, u2, u3, u4, u5⟩ := HU.out
                refine ⟨m, U.sw a2 (a2 + 1), rfl, hr.out.2.mn, HC4.out, u2.sw (by rw [u3.n]; have := HQN.out; omega) (by rw [u3.n]; exact HQN.out), u3.trans (u2.kin (by rw [u3.n]; have := HQN.out; omega) (by rw [u3.n]; exact HQN.out)), fun e' he => h5 e' ?_, (u5.then (Tur.of_below HB3.out)).then HT4.out⟩
                refine .step (hr.out.2.s2 rfl) HMK.out (.yes (by rw [← HA2.out]; exact HQN.out) ?_) ?_
                · rw [← HA2.out, ← u4, ← u3.k]; exact HQ.out.symm
                · rw [← HA2.out, ← u4]; exact he
              case measure =>
                have hgt := (hr.out.2.s2 rfl).gt HMK.out
                have := hh.out.1
                simp [intOf]; omega
            | false =>
              go_wp2
              go_roundw
              case rel =>
                obtain ⟨h1, h2, h3, h4, h5, h6⟩ := hh.out
                obtain ⟨u1, u2, u3, u4, u5⟩ := HU.out
                refine ⟨m, U, rfl, hr.out.2.mn, u1.below HB3.out, u2, u3, fun e' he => h5 e' ?_, u5.then (Tur.of_below HB3.out)⟩
                refine .step (hr.out.2.s2 rfl) HMK.out (.no (fun _ x => ?_)) (by rw [← u4]; exact he)
                rw [← HA2.out, ← u4, ← u3.k] at x
                unfold LtM at x
                rw [← HQ.out] at x
                cases x
              case measure =>
                have hgt := (hr.out.2.s2 rfl).gt HMK.out
                have := hh.out.1
                simp [intOf]; omega
          · have hq1 : ¬ ((a2 + 1 : Nat) : Int) < (S.n : Int) := by omega
            have HQN := hid hq
            clear hU C2 T2 L2 K2 hUe hnb hmn ha2 hq
            go_wp2
            go_roundw
            case rel =>
              obtain ⟨h1, h2, h3, h4, h5, h6⟩ := hh.out
              obtain ⟨u1, u2, u3, u4, u5⟩ := HU.out
              refine ⟨m, U, rfl, hr.out.2.mn, u1, u2, u3, fun e' he => h5 e' ?_, u5⟩
              refine .step (hr.out.2.s2 rfl) HMK.out (.no (fun hx => ?_)) (by rw [← u4]; exact he)
              rw [← HA2.out] at hx
              exact absurd hx HQN.out
            case measure =>
              have hgt := (hr.out.2.s2 rfl).gt HMK.out
              have := hh.out.1
              simp [intOf]; omega
set_option maxRecDepth 20000 in
set_option maxHeartbeats 16000000 in
theorem mdownH_g {i : Nat} (h : MmV B w H va vk vs S) (hl : Lnk S) (hi : i < S.n) (hp : i % 2 = 1) :
    Calls Try.prog 70 #[.pointer (some ⟨H, 0, none⟩), .int .i64 i] w fun e w' => e = .returned (.tuple #[]) ∧ ∃ T, MmV B w' H va vk vs T ∧ Lnk T ∧ Kin S T ∧ Dns (LtM S.k) S.n true S.e i T.e ∧ Tur (FootM H va vk vs) w w' := by
  have hnb : S.n ≤ 1000000 := Nat.le_trans hl.nb hl.mb
  have HNB := hid hnb
  have hlH := h.ltH
  obtain ⟨g, cap, hva, -⟩ := rowI_cells h.ra (by omega)
  have HVA := hid hva
  have b1 : bits .and .i64 (i : Int) 1 = 1 := by rw [b_and i (by omega), hp]; rfl
  have H0 : Hid (i < S.n ∧ MmV B w H va vk vs S ∧ Lnk S) := ⟨hi, h, hl⟩
  clear h hl hi hnb hva hp
  go_enter Try.func70, Try.ntmps70
  go_wp2
  go_loopw [1] (fun x wr => ∃ (k : Nat) (T : Mm), x = .int .i64 k ∧ Hid (k < S.n ∧ MmV B wr H va vk vs T ∧ Lnk T ∧ Kin S T ∧ (∀ e', Dns (LtM S.k) S.n true T.e k e' → Dns (LtM S.k) S.n true S.e i e') ∧ Tur (FootM H va vk vs) w wr)) (fun x _ => S.n - (intOf x).toNat)
  case atStart => exact ⟨i, S, rfl, H0.out.1, H0.out.2.1, H0.out.2.2, Kin.refl S, fun _ h => h, Tur.refl _ _⟩
  case round =>
    obtain ⟨k, T, rfl, hh⟩ := hrel
    rename World => wo
    clear b1
    have hkn : k < S.n := hh.out.1
    have hnb := HNB.out
    obtain ⟨a, ha⟩ : ∃ a, a = k / 2 := ⟨_, rfl⟩
    obtain ⟨p, hp⟩ : ∃ p, p = a * 4 := ⟨_, rfl⟩
    obtain ⟨c1, hc1⟩ : ∃ c, c = p + 2 := ⟨_, rfl⟩
    obtain ⟨c2, hc2⟩ : ∃ c, c = p + 4 := ⟨_, rfl⟩
    have iw1 : (k : Int).tdiv 2 = (a : Int) := by rw [ha, Int.tdiv_eq_ediv_of_nonneg (by omega)]; omega
    have iwa : IntKind.i64.wrap (a : Int) = (a : Int) := IntWalk.i64_in _ (by omega)
    have iw2 : IntKind.i64.wrap ((a : Int) * 4) = (p : Int) := by rw [show (a : Int) * 4 = p by omega]; exact IntWalk.i64_in _ (by omega)
    have iw3 : IntKind.i64.wrap ((p : Int) + 2) = (c1 : Int) := by rw [show (p : Int) + 2 = c1 by omega]; exact IntWalk.i64_in _ (by omega)
    have iw4 : IntKind.i64.wrap ((p : Int) + 4) = (c2 : Int) := by rw [show (p : Int) + 4 = c2 by omega]; exact IntWalk.i64_in _ (by omega)
    have HC : Hid (c1 = 4 * (k / 2) + 2 ∧ c2 = 4 * (k / 2) + 4 ∧ k < S.n) := ⟨by omega, by omega, hkn⟩
    clear hc1 hc2 ha hp hkn hnb
    go_wp2
    go_loopw [22, 5] (fun x y wr => ∃ (r m : Nat), x = .int .i64 r ∧ y = .int .i64 m ∧ Hid (Below wo.heap.size wo wr ∧ Inn (LtM S.k) S.n true T.e k r m)) (fun x _ _ => 2 - (intOf x).toNat)
    case atStart => exact ⟨0, k, rfl, rfl, Below.refl _ _, by omega, HC.out.2.2, fun _ => rfl, fun x => by omega, fun x => by omega⟩
    case round =>
      obtain ⟨r, m, rfl, rfl, hr⟩ := hrel
      clear iw1 iwa iw2 iw3 iw4
      have c0 : wr.cell? ⟨H, 0, none⟩ = some (.slice (some ⟨g, 0, none⟩) S.n cap) := by
        have hx := (hh.out.2.1.below hr.out.1).head.1
        rw [hx, HVA.out]
      have hlH1 : H < wr.heap.size := (hh.out.2.1.below hr.out.1).ltH
      have hr2 : r = 0 ∨ r = 1 ∨ r = 2 := by have := hr.out.2.r2; omega
      rcases hr2 with rfl | rfl | rfl
      · have HC := hid HC.out
        by_cases hc1n : c1 + 1 < S.n
        · have hc1n2 : ((c1 : Nat) : Int) + 1 < (S.n : Int) := by omega
          have ivc : IntKind.i64.wrap (((c1 : Nat) : Int) + 1) = ((c1 + 1 : Nat) : Int) := IntWalk.i64_in _ (by have := HC.out; have := HNB.out; omega)
          have hc1n3 : ((c1 + 1 : Nat) : Int) < (S.n : Int) := by omega
          have HC1 := hid hc1n
          clear hc1n
          by_cases hcn : c1 + 1 < S.n
          · have hcn2 : ¬ (S.n : Int) ≤ ((c1 + 1 : Nat) : Int) := by omega
            have HCN := hid hcn
            obtain ⟨q, hq⟩ : ∃ q, q = ltM T.k (T.e m) (T.e (c1 + 1)) := ⟨_, rfl⟩
            have HQ := hid hq
            have HLess : Hid (∀ W, Below wr.heap.size wr W → Calls Try.prog 56 #[.pointer (some ⟨H, 0, none⟩), .int .i64 (m : Int), .int .i64 ((c1 + 1 : Nat) : Int)] W fun e w' => e = .returned (.bool q) ∧ Below W.heap.size W w') := fun W hb => by
              rw [hq]; exact mless_g ((hh.out.2.1.below hr.out.1).below hb) hh.out.2.2.1 (i := m) (j := c1 + 1) (by rw [hh.out.2.2.2.1.n]; exact hr.out.2.mn) (by rw [hh.out.2.2.2.1.n]; exact hcn)
            clear hcn hq
            go_wp2_with fail
            refine (HLess.out _ (by first | exact Below.refl _ _ | exact (by repeat (first | with_reducible assumption | with_reducible exact Below.refl _ _ | with_reducible refine Below.drew ?_ | with_reducible refine below_drewN ?_ _ | with_reducible refine below_alloc ?_ _ | with_reducible refine Below.alloc ?_ (by first | omega | (simp; done) | (simp; omega)) _ | with_reducible refine Below.setCell ?_ (by first | omega | (simp; done) | (simp; omega)) _ | with_reducible refine below_setRow ?_ (by first | omega | (simp; done) | (simp; omega)) _)))).mono ?_
            rintro e w1 ⟨rfl, hb1⟩
            have HB1 := hid hb1
            clear hb1
            cases q with
            | true =>
              go_wp2
              go_roundw
              case rel =>
                refine ⟨1, c1 + 1, rfl, rfl, hr.out.1.trans (HB1.out.mono hr.out.1.size), hr.out.2.one ?_⟩
                rw [cand_hi1 (show 2 * (2 * (k / 2) + 1) + 1 < S.n by have := HC.out; have := HC1.out; omega), show 2 * (2 * (k / 2) + 1) + 1 = c1 + 1 by have := HC.out; omega]
                have hx := HQ.out
                rw [hh.out.2.2.2.1.k] at hx
                exact .yes HCN.out (by unfold Better; simp only [if_true]; exact hx.symm)
              case measure => simp [intOf]
            | false =>
              go_wp2
              go_roundw
              case rel =>
                refine ⟨1, m, rfl, rfl, hr.out.1.trans (HB1.out.mono hr.out.1.size), hr.out.2.one ?_⟩
                rw [cand_hi1 (show 2 * (2 * (k / 2) + 1) + 1 < S.n by have := HC.out; have := HC1.out; omega), show 2 * (2 * (k / 2) + 1) + 1 = c1 + 1 by have := HC.out; omega]
                have hx := HQ.out
                rw [hh.out.2.2.2.1.k] at hx
                exact .no (fun _ x => by unfold Better at x; simp only [if_true] at x; unfold LtM at x; rw [← hx] at x; cases x)
              case measure => simp [intOf]
          · exact absurd HC1.out hcn
        · have hc1n2 : ¬ ((c1 : Nat) : Int) + 1 < (S.n : Int) := by omega
          have ivc : IntKind.i64.wrap (((c1 : Nat) : Int) + 1) = ((c1 + 1 : Nat) : Int) := IntWalk.i64_in _ (by have := HC.out; have := HNB.out; omega)
          have hc1n3 : ¬ ((c1 + 1 : Nat) : Int) < (S.n : Int) := by omega
          have HC1 := hid hc1n
          clear hc1n
          go_upto_region 7 with fail
          by_cases hcn : c1 < S.n
          · have hcn2 : ¬ (S.n : Int) ≤ ((c1 : Nat) : Int) := by omega
            have HCN := hid hcn
            obtain ⟨q, hq⟩ : ∃ q, q = ltM T.k (T.e m) (T.e (c1)) := ⟨_, rfl⟩
            have HQ := hid hq
            have HLess : Hid (∀ W, Below wr.heap.size wr W → Calls Try.prog 56 #[.pointer (some ⟨H, 0, none⟩), .int .i64 (m : Int), .int .i64 ((c1 : Nat) : Int)] W fun e w' => e = .returned (.bool q) ∧ Below W.heap.size W w') := fun W hb => by
              rw [hq]; exact mless_g ((hh.out.2.1.below hr.out.1).below hb) hh.out.2.2.1 (i := m) (j := c1) (by rw [hh.out.2.2.2.1.n]; exact hr.out.2.mn) (by rw [hh.out.2.2.2.1.n]; exact hcn)
            clear hcn hq
            go_wp2_with fail
            refine (HLess.out _ (by first | exact Below.refl _ _ | exact (by repeat (first | with_reducible assumption | with_reducible exact Below.refl _ _ | with_reducible refine Below.drew ?_ | with_reducible refine below_drewN ?_ _ | with_reducible refine below_alloc ?_ _ | with_reducible refine Below.alloc ?_ (by first | omega | (simp; done) | (simp; omega)) _ | with_reducible refine Below.setCell ?_ (by first | omega | (simp; done) | (simp; omega)) _ | with_reducible refine below_setRow ?_ (by first | omega | (simp; done) | (simp; omega)) _)))).mono ?_
            rintro e w1 ⟨rfl, hb1⟩
            have HB1 := hid hb1
            clear hb1
            cases q with
            | true =>
              go_wp2
              go_roundw
              case rel =>
                refine ⟨1, c1, rfl, rfl, hr.out.1.trans (HB1.out.mono hr.out.1.size), hr.out.2.one ?_⟩
                rw [cand_hi0 (show ¬ 2 * (2 * (k / 2) + 1) + 1 < S.n by have := HC.out; have := HC1.out; omega), show 2 * (2 * (k / 2) + 1) = c1 by have := HC.out; omega]
                have hx := HQ.out
                rw [hh.out.2.2.2.1.k] at hx
                exact .yes HCN.out (by unfold Better; simp only [if_true]; exact hx.symm)
              case measure => simp [intOf]
            | false =>
              go_wp2
              go_roundw
              case rel =>
                refine ⟨1, m, rfl, rfl, hr.out.1.trans (HB1.out.mono hr.out.1.size), hr.out.2.one ?_⟩
                rw [cand_hi0 (show ¬ 2 * (2 * (k / 2) + 1) + 1 < S.n by have := HC.out; have := HC1.out; omega), show 2 * (2 * (k / 2) + 1) = c1 by have := HC.out; omega]
                have hx := HQ.out
                rw [hh.out.2.2.2.1.k] at hx
                exact .no (fun _ x => by unfold Better at x; simp only [if_true] at x; unfold LtM at x; rw [← hx] at x; cases x)
              case measure => simp [intOf]
          · have hcn2 : (S.n : Int) ≤ ((c1 : Nat) : Int) := by omega
            have HCN := hid hcn
            clear hcn
            go_wp2
            go_roundw
            case rel =>
              refine ⟨1, m, rfl, rfl, hr.out.1, hr.out.2.one ?_⟩
              rw [cand_hi0 (show ¬ 2 * (2 * (k / 2) + 1) + 1 < S.n by have := HC.out; have := HC1.out; omega), show 2 * (2 * (k / 2) + 1) = c1 by have := HC.out; omega]
              exact .no (fun x => absurd x HCN.out)
            case measure => simp [intOf]
      · have HC := hid HC.out
        by_cases hc1n : c2 + 1 < S.n
        · have hc1n2 : ((c2 : Nat) : Int) + 1 < (S.n : Int) := by omega
          have ivc : IntKind.i64.wrap (((c2 : Nat) : Int) + 1) = ((c2 + 1 : Nat) : Int) := IntWalk.i64_in _ (by have := HC.out; have := HNB.out; omega)
          have hc1n3 : ((c2 + 1 : Nat) : Int) < (S.n : Int) := by omega
          have HC1 := hid hc1n
          clear hc1n
          by_cases hcn : c2 + 1 < S.n
          · have hcn2 : ¬ (S.n : Int) ≤ ((c2 + 1 : Nat) : Int) := by omega
            have HCN := hid hcn
            obtain ⟨q, hq⟩ : ∃ q, q = ltM T.k (T.e m) (T.e (c2 + 1)) := ⟨_, rfl⟩
            have HQ := hid hq
            have HLess : Hid (∀ W, Below wr.heap.size wr W → Calls Try.prog 56 #[.pointer (some ⟨H, 0, none⟩), .int .i64 (m : Int), .int .i64 ((c2 + 1 : Nat) : Int)] W fun e w' => e = .returned (.bool q) ∧ Below W.heap.size W w') := fun W hb => by
              rw [hq]; exact mless_g ((hh.out.2.1.below hr.out.1).below hb) hh.out.2.2.1 (i := m) (j := c2 + 1) (by rw [hh.out.2.2.2.1.n]; exact hr.out.2.mn) (by rw [hh.out.2.2.2.1.n]; exact hcn)
            clear hcn hq
            go_wp2_with fail
            refine (HLess.out _ (by first | exact Below.refl _ _ | exact (by repeat (first | with_reducible assumption | with_reducible exact Below.refl _ _ | with_reducible refine Below.drew ?_ | with_reducible refine below_drewN ?_ _ | with_reducible refine below_alloc ?_ _ | with_reducible refine Below.alloc ?_ (by first | omega | (simp; done) | (simp; omega)) _ | with_reducible refine Below.setCell ?_ (by first | omega | (simp; done) | (simp; omega)) _ | with_reducible refine below_setRow ?_ (by first | omega | (simp; done) | (simp; omega)) _)))).mono ?_
            rintro e w1 ⟨rfl, hb1⟩
            have HB1 := hid hb1
            clear hb1
            cases q with
            | true =>
              go_wp2
              go_roundw
              case rel =>
                refine ⟨2, c2 + 1, rfl, rfl, hr.out.1.trans (HB1.out.mono hr.out.1.size), hr.out.2.two ?_⟩
                rw [cand_hi1 (show 2 * (2 * (k / 2) + 2) + 1 < S.n by have := HC.out; have := HC1.out; omega), show 2 * (2 * (k / 2) + 2) + 1 = c2 + 1 by have := HC.out; omega]
                have hx := HQ.out
                rw [hh.out.2.2.2.1.k] at hx
                exact .yes HCN.out (by unfold Better; simp only [if_true]; exact hx.symm)
              case measure => simp [intOf]
            | false =>
              go_wp2
              go_roundw
              case rel =>
                refine ⟨2, m, rfl, rfl, hr.out.1.trans (HB1.out.mono hr.out.1.size), hr.out.2.two ?_⟩
                rw [cand_hi1 (show 2 * (2 * (k / 2) + 2) + 1 < S.n by have := HC.out; have := HC1.out; omega), show 2 * (2 * (k / 2) + 2) + 1 = c2 + 1 by have := HC.out; omega]
                have hx := HQ.out
                rw [hh.out.2.2.2.1.k] at hx
                exact .no (fun _ x => by unfold Better at x; simp only [if_true] at x; unfold LtM at x; rw [← hx] at x; cases x)
              case measure => simp [intOf]
          · exact absurd HC1.out hcn
        · have hc1n2 : ¬ ((c2 : Nat) : Int) + 1 < (S.n : Int) := by omega
          have ivc : IntKind.i64.wrap (((c2 : Nat) : Int) + 1) = ((c2 + 1 : Nat) : Int) := IntWalk.i64_in _ (by have := HC.out; have := HNB.out; omega)
          have hc1n3 : ¬ ((c2 + 1 : Nat) : Int) < (S.n : Int) := by omega
          have HC1 := hid hc1n
          clear hc1n
          go_upto_region 7 with fail
          by_cases hcn : c2 < S.n
          · have hcn2 : ¬ (S.n : Int) ≤ ((c2 : Nat) : Int) := by omega
            have HCN := hid hcn
            obtain ⟨q, hq⟩ : ∃ q, q = ltM T.k (T.e m) (T.e (c2)) := ⟨_, rfl⟩
            have HQ := hid hq
            have HLess : Hid (∀ W, Below wr.heap.size wr W → Calls Try.prog 56 #[.pointer (some ⟨H, 0, none⟩), .int .i64 (m : Int), .int .i64 ((c2 : Nat) : Int)] W fun e w' => e = .returned (.bool q) ∧ Below W.heap.size W w') := fun W hb => by
              rw [hq]; exact mless_g ((hh.out.2.1.below hr.out.1).below hb) hh.out.2.2.1 (i := m) (j := c2) (by rw [hh.out.2.2.2.1.n]; exact hr.out.2.mn) (by rw [hh.out.2.2.2.1.n]; exact hcn)
            clear hcn hq
            go_wp2_with fail
            refine (HLess.out _ (by first | exact Below.refl _ _ | exact (by repeat (first | with_reducible assumption | with_reducible exact Below.refl _ _ | with_reducible refine Below.drew ?_ | with_reducible refine below_drewN ?_ _ | with_reducible refine below_alloc ?_ _ | with_reducible refine Below.alloc ?_ (by first | omega | (simp; done) | (simp; omega)) _ | with_reducible refine Below.setCell ?_ (by first | omega | (simp; done) | (simp; omega)) _ | with_reducible refine below_setRow ?_ (by first | omega | (simp; done) | (simp; omega)) _)))).mono ?_
            rintro e w1 ⟨rfl, hb1⟩
            have HB1 := hid hb1
            clear hb1
            cases q with
            | true =>
              go_wp2
              go_roundw
              case rel =>
                refine ⟨2, c2, rfl, rfl, hr.out.1.trans (HB1.out.mono hr.out.1.size), hr.out.2.two ?_⟩
                rw [cand_hi0 (show ¬ 2 * (2 * (k / 2) + 2) + 1 < S.n by have := HC.out; have := HC1.out; omega), show 2 * (2 * (k / 2) + 2) = c2 by have := HC.out; omega]
                have hx := HQ.out
                rw [hh.out.2.2.2.1.k] at hx
                exact .yes HCN.out (by unfold Better; simp only [if_true]; exact hx.symm)
              case measure => simp [intOf]
            | false =>
              go_wp2
              go_roundw
              case rel =>
                refine ⟨2, m, rfl, rfl, hr.out.1.trans (HB1.out.mono hr.out.1.size), hr.out.2.two ?_⟩
                rw [cand_hi0 (show ¬ 2 * (2 * (k / 2) + 2) + 1 < S.n by have := HC.out; have := HC1.out; omega), show 2 * (2 * (k / 2) + 2) = c2 by have := HC.out; omega]
                have hx := HQ.out
                rw [hh.out.2.2.2.1.k] at hx
                exact .no (fun _ x => by unfold Better at x; simp only [if_true] at x; unfold LtM at x; rw [← hx] at x; cases x)
              case measure => simp [intOf]
          · have hcn2 : (S.n : Int) ≤ ((c2 : Nat) : Int) := by omega
            have HCN := hid hcn
            clear hcn
            go_wp2
            go_roundw
            case rel =>
              refine ⟨2, m, rfl, rfl, hr.out.1, hr.out.2.two ?_⟩
              rw [cand_hi0 (show ¬ 2 * (2 * (k / 2) + 2) + 1 < S.n by have := HC.out; have := HC1.out; omega), show 2 * (2 * (k / 2) + 2) = c2 by have := HC.out; omega]
              exact .no (fun x => absurd x HCN.out)
            case measure => simp [intOf]
      · have c0 := 0
        by_cases hmk : m = k
        · subst hmk
          go_wp2
          refine bodyPost_ret (results_none rfl _ _ _) rfl ?_
          obtain ⟨h1, h2, h3, h4, h5, h6⟩ := hh.out
          exact ⟨rfl, T, h2.below hr.out.1, h3, h4, h5 _ (.stop (hr.out.2.s2 rfl)), h6.then (Tur.of_below hr.out.1)⟩
        · have hmk2 : ((m : Int) == (k : Int)) = false := by simp; omega
          have HMK := hid hmk
          clear hmk
          go_wp2_with fail
          refine (mswap_g (hh.out.2.1.below hr.out.1) hh.out.2.2.1 (i := k) (j := m) (by rw [hh.out.2.2.2.1.n]; exact hh.out.1) (by rw [hh.out.2.2.2.1.n]; exact hr.out.2.mn)).mono ?_
          rintro e w2 ⟨rfl, C2, T2⟩
          have L2 := hh.out.2.2.1.sw (i := k) (j := m) (by rw [hh.out.2.2.2.1.n]; exact hh.out.1) (by rw [hh.out.2.2.2.1.n]; exact hr.out.2.mn)
          have K2 := hh.out.2.2.2.1.trans (hh.out.2.2.1.kin (i := k) (j := m) (by rw [hh.out.2.2.2.1.n]; exact hh.out.1) (by rw [hh.out.2.2.2.1.n]; exact hr.out.2.mn))
          obtain ⟨U, hU⟩ : ∃ U, U = T.sw k m := ⟨_, rfl⟩
          have hUe : U.e = swf T.e k m := by rw [hU]; rfl
          rw [← hU] at C2 L2 K2
          have HU : Hid (MmV B w2 H va vk vs U ∧ Lnk U ∧ Kin S U ∧ U.e = swf T.e k m ∧ Tur (FootM H va vk vs) w w2) := ⟨C2, L2, K2, hUe, (hh.out.2.2.2.2.2.then (Tur.of_below hr.out.1)).then T2⟩
          have c0 : w2.cell? ⟨H, 0, none⟩ = some (.slice (some ⟨g, 0, none⟩) S.n cap) := by rw [C2.head.1, HVA.out]
          have hlH2 := C2.ltH
          have hnb := HNB.out
          have hmn := hr.out.2.mn
          obtain ⟨a2, ha2⟩ : ∃ a, a = 2 * (m / 2) := ⟨_, rfl⟩
          have ba : bits .andNot .i64 (m : Int) 1 = (a2 : Int) := by rw [ha2]; exact b_andNot m (by omega)
          have wa : IntKind.i64.wrap ((a2 : Int) + 1) = ((a2 + 1 : Nat) : Int) := IntWalk.i64_in _ (by omega)
          have hmn2 : ¬ (S.n : Int) ≤ (m : Int) := by omega
          have HA2 := hid ha2
          by_cases hq : a2 + 1 < S.n
          · have hq1 : ((a2 + 1 : Nat) : Int) < (S.n : Int) := by omega
            have HQN := hid hq
            obtain ⟨q, hqq⟩ : ∃ q, q = ltM U.k (U.e (a2 + 1)) (U.e a2) := ⟨_, rfl⟩
            have HQ := hid hqq
            have HLess : Hid (∀ W, Below w2.heap.size w2 W → Calls Try.prog 56 #[.pointer (some ⟨H, 0, none⟩), .int .i64 ((a2 + 1 : Nat) : Int), .int .i64 (a2 : Int)] W fun e w' => e = .returned (.bool q) ∧ Below W.heap.size W w') := fun W hb => by
              rw [hqq]; exact mless_g (C2.below hb) L2 (i := a2 + 1) (j := a2) (by rw [K2.n]; exact hq) (by rw [K2.n]; omega)
            clear hU C2 T2 L2 K2 hUe hnb hmn ha2 hq hqq
            go_wp2_with fail
            refine (HLess.out _ (by first | exact Below.refl _ _ | exact (by repeat (first | with_reducible assumption | with_reducible exact Below.refl _ _ | with_reducible refine Below.drew ?_ | with_reducible refine below_drewN ?_ _ | with_reducible refine below_alloc ?_ _ | with_reducible refine Below.alloc ?_ (by first | omega | (simp; done) | (simp; omega)) _ | with_reducible refine Below.setCell ?_ (by first | omega | (simp; done) | (simp; omega)) _ | with_reducible refine below_setRow ?_ (by first | omega | (simp; done) | (simp; omega)) _)))).mono ?_
            rintro e w3 ⟨rfl, hb3⟩
            have HB3 := hid hb3
            have c03 : w3.cell? ⟨H, 0, none⟩ = some (.slice (some ⟨g, 0, none⟩) S.n cap) := by rw [(HU.out.1.below hb3).head.1, HVA.out]
            have hlH3 : H < w3.heap.size := (HU.out.1.below hb3).ltH
            clear hb3
            cases q with
            | true =>
              go_wp2_with fail
              refine (mswap_g (HU.out.1.below HB3.out) HU.out.2.1 (i := a2) (j := a2 + 1) (by rw [HU.out.2.2.1.n]; have := HQN.out; omega) (by rw [HU.out.2.2.1.n]; exact HQN.out)).mono ?_
              rintro e w4 ⟨rfl, C4, T4⟩
              have c04 : w4.cell? ⟨H, 0, none⟩ = some (.slice (some ⟨g, 0, none⟩) S.n cap) := by rw [C4.head.1, HVA.out]
              have hlH4 := C4.ltH
              have HC4 := hid C4
              have HT4 := hid T4
              clear C4 T4 c0 c03
              go_wp2
              go_roundw
              case rel =>
                obtain ⟨h1, h2, h3, h4, h5, h6⟩ := hh.out
                obtain ⟨u1, u2, u3, u4, u5⟩ := HU.out
                refine ⟨m, U.sw a2 (a2 + 1), rfl, hr.out.2.mn, HC4.out, u2.sw (by rw [u3.n]; have := HQN.out; omega) (by rw [u3.n]; exact HQN.out), u3.trans (u2.kin (by rw [u3.n]; have := HQN.out; omega) (by rw [u3.n]; exact HQN.out)), fun e' he => h5 e' ?_, (u5.then (Tur.of_below HB3.out)).then HT4.out⟩
                refine .step (hr.out.2.s2 rfl) HMK.out (.yes (by rw [← HA2.out]; exact HQN.out) ?_) ?_
                · rw [← HA2.out, ← u4, ← u3.k]; exact HQ.out.symm
                · rw [← HA2.out, ← u4]; exact he
              case measure =>
                have hgt := (hr.out.2.s2 rfl).gt HMK.out
                have := hh.out.1
                simp [intOf]; omega
            | false =>
              go_wp2
              go_roundw
              case rel =>
                obtain ⟨h1, h2, h3, h4, h5, h6⟩ := hh.out
                obtain ⟨u1, u2, u3, u4, u5⟩ := HU.out
                refine ⟨m, U, rfl, hr.out.2.mn, u1.below HB3.out, u2, u3, fun e' he => h5 e' ?_, u5.then (Tur.of_below HB3.out)⟩
                refine .step (hr.out.2.s2 rfl) HMK.out (.no (fun _ x => ?_)) (by rw [← u4]; exact he)
                rw [← HA2.out, ← u4, ← u3.k] at x
                unfold LtM at x
                rw [← HQ.out] at x
                cases x
              case measure =>
                have hgt := (hr.out.2.s2 rfl).gt HMK.out
                have := hh.out.1
                simp [intOf]; omega
          · have hq1 : ¬ ((a2 + 1 : Nat) : Int) < (S.n : Int) := by omega
            have HQN := hid hq
            clear hU C2 T2 L2 K2 hUe hnb hmn ha2 hq
            go_wp2
            go_roundw
            case rel =>
              obtain ⟨h1, h2, h3, h4, h5, h6⟩ := hh.out
              obtain ⟨u1, u2, u3, u4, u5⟩ := HU.out
              refine ⟨m, U, rfl, hr.out.2.mn, u1, u2, u3, fun e' he => h5 e' ?_, u5⟩
              refine .step (hr.out.2.s2 rfl) HMK.out (.no (fun hx => ?_)) (by rw [← u4]; exact he)
              rw [← HA2.out] at hx
              exact absurd hx HQN.out
            case measure =>
              have hgt := (hr.out.2.s2 rfl).gt HMK.out
              have := hh.out.1
              simp [intOf]; omega
end Go.Proofs.Ytingeijodooocaa
