/- Chapter 1: what the laws of the chapter ask first; the walks of RunesChecks and RunesBoth. -/
import Derived.Test.YtlciijcfhfcbkaaDoorWrW
import Derived.Test.YtlciijcfhfcbkaaDoorRunF
import Derived.Lib.RuneCountTail
namespace Go.Proofs.YtlciijcfhfcbkaaDoor
open Go.RowKit
theorem tabs_below {w w' : World} {B : Nat} (h : Lib.Utf8Tabs 0 1 w) (hB : 2 ≤ B) (hb : Below B w w') : Lib.Utf8Tabs 0 1 w' :=
  ⟨fun c hc => by rw [hb.cell (show 0 < B by omega)]; exact h.1 c hc, fun i hi => by rw [hb.cell (show 1 < B by omega), hb.cell (show 1 < B by omega)]; exact h.2 i hi⟩
theorem tabs_size {w : World} (h : Lib.Utf8Tabs 0 1 w) : 2 ≤ w.heap.size := by
  have := (h.2 0 (by omega)).1
  by_cases hn : 1 < w.heap.size
  · exact hn
  · have h0 : w.heap[1]? = none := Array.getElem?_eq_none (by omega)
    simp [World.cell?, h0] at this
/-- DecodeRuneInString, as the walks take it. -/
theorem hdec_of {w : World} (hT : Lib.Utf8Tabs 0 1 w) (s : ByteArray) : ∀ i W, Below w.heap.size w W → i < s.size → Calls Tryd.prog 17 #[.string (s.extract i s.size)] W fun e w' => e = .returned (.tuple #[.int .i32 (Utf8.decode s i).1, .int .i64 (Utf8.decode s i).2]) ∧ Below W.heap.size W w' := by
  intro i W hb hi
  refine (Tryd.utf8_DecodeRuneInString (s.extract i s.size) W (tabs_below hT (tabs_size hT) hb)).mono ?_
  rintro e w' ⟨rfl, hb'⟩
  have hz : ¬ (s.extract i s.size).size = 0 := by rw [Lib.tail_size]; omega
  have hd : Lib.decodeGo (s.extract i s.size) = Utf8.decode s i := by
    unfold Lib.decodeGo
    rw [if_neg hz, Lib.tail_decode, Nat.add_zero]
  rw [hd]
  exact ⟨rfl, hb'⟩
def sA : ByteArray := ⟨#[97, 255]⟩
def sB : ByteArray := ⟨#[97, 32, 98]⟩
def sC : ByteArray := ⟨#[110, 111, 100, 101, 45, 49]⟩
theorem chk_sA : chkA sA 0 0 = (0, 1, 12) := by decide +kernel
theorem wres_sB : wres sB = ([⟨#[97]⟩, ⟨#[98]⟩], 0, 0) := by decide +kernel
theorem name_sC : nameB sC = true := by decide +kernel
set_option maxRecDepth 20000 in
theorem awake_any (w : World) (hT : Lib.Utf8Tabs 0 1 w) : Calls Tryd.prog 8 #[] w fun e w' => e = .returned (.bool true) ∧ Below w.heap.size w w' := by
  have HT := hid hT
  clear hT
  go_enter Tryd.func8, Tryd.ntmps8
  go_wp2_with fail
  refine (check_any sA w (by decide) (hdec_of HT.out sA)).mono ?_
  rintro e w1 ⟨rfl, hb1⟩
  rw [chk_sA]
  have B1 := hid hb1
  clear hb1
  go_wp2_with fail
  refine (words_any sB w1 (by decide) (hdec_of (tabs_below HT.out (tabs_size HT.out) B1.out) sB)).mono ?_
  rintro e w2 ⟨v, rfl, hrow, hb2⟩
  rw [wres_sB] at hrow ⊢
  obtain ⟨A, cap, rfl⟩ : ∃ A cap, v = .slice A 2 cap := rowS_slice hrow
  have B2 := hid (B1.out.trans (hb2.mono B1.out.size))
  clear hb2 hrow
  go_wp2_with fail
  refine (name_any sC w2 (by decide)).mono ?_
  rintro e w3 ⟨rfl, hb3⟩
  rw [name_sC]
  have B3 := hid (B2.out.trans (hb3.mono B2.out.size))
  clear hb3
  go_wp2
  go_ret
  exact ⟨rfl, B3.out⟩
set_option maxRecDepth 20000 in
/-- RunesChecks. -/
theorem checks_walk (s : ByteArray) (w : World) (hs : s.size ≤ 281474976710656) (hT : Lib.Utf8Tabs 0 1 w) : Calls Tryd.prog 3 #[.string s] w fun e w' => e = .returned (.bool true) ∧ Below w.heap.size w w' := by
  have HT := hid hT
  clear hT
  have HS := hid hs
  clear hs
  go_enter Tryd.func3, Tryd.ntmps3
  go_wp2_with fail
  refine (awake_any w HT.out).mono ?_
  rintro e w1 ⟨rfl, hb1⟩
  have B1 := hid hb1
  clear hb1
  go_wp2_with fail
  refine (check_any s w1 (by have := HS.out; unfold maxLen; omega) (hdec_of (tabs_below HT.out (tabs_size HT.out) B1.out) s)).mono ?_
  rintro e w2 ⟨rfl, hb2⟩
  have B2 := hid (B1.out.trans (hb2.mono B1.out.size))
  clear hb2
  go_wp2_with fail
  refine (rcheck_any s w2 HS.out).mono ?_
  rintro e w3 ⟨rfl, hb3⟩
  have B3 := hid (B2.out.trans (hb3.mono B2.out.size))
  clear hb3
  go_wp2_with fail
  refine (name_any s w3 (by have := HS.out; unfold maxLen; omega)).mono ?_
  rintro e w4 ⟨rfl, hb4⟩
  have B4 := hid (B3.out.trans (hb4.mono B3.out.size))
  clear hb4
  go_wp2_with fail
  refine (rname_any s w4 HS.out).mono ?_
  rintro e w5 ⟨rfl, hb5⟩
  have B5 := hid (B4.out.trans (hb5.mono B4.out.size))
  clear hb5
  go_wp2
  go_ret
  exact ⟨rfl, B5.out⟩
theorem chk_n0 (s : ByteArray) (h : ¬ (chkA s 0 0).2.2 = 0) : (chkA s 0 0).1 = 0 := (chkA_add s s.size 0 0 (by omega)).2.2 h
theorem chk_le (s : ByteArray) : ∀ d i n, s.size - i ≤ d → i ≤ s.size → (chkA s i n).1 ≤ n + (s.size - i) := by
  intro d
  induction d with
  | zero => intro i n h hi; rw [chkA_end (by omega)]; simp
  | succ d ih =>
    intro i n h hi
    by_cases hl : i < s.size
    · by_cases hd : Utf8.decode s i = (65533, 1)
      · rw [chkA_bad hl hd]; simp
      · by_cases hf : (Utf8.decode s i).1 < 32 ∨ (Utf8.decode s i).1 = 127
        · rw [chkA_form hl hd hf]; simp
        · have h1 := dec_pos hl
          have h2 := dec_le hl
          rw [chkA_step hl hd hf]
          have := ih (i + (Utf8.decode s i).2) (n + 1) (by omega) h2
          omega
    · rw [chkA_end hl]; simp
set_option maxRecDepth 20000 in
/-- RunesBoth. -/
theorem both_walk (a b : ByteArray) (w : World) (ha : a.size ≤ 140737488351232) (hb : b.size ≤ 140737488351232) (hT : Lib.Utf8Tabs 0 1 w) : Calls Tryd.prog 5 #[.string a, .string b] w fun e w' => e = .returned (.bool true) ∧ Below w.heap.size w w' := by
  have HT := hid hT
  clear hT
  have HA := hid ha
  have HB := hid hb
  clear ha hb
  have HAB : Hid ((a ++ b).size ≤ 281474976710656) := by have := HA.out; have := HB.out; unfold Hid; rw [size_app]; omega
  have hcat : ¬ (9223372036854775807 < a.size + b.size) := by have := HA.out; have := HB.out; omega
  go_enter Tryd.func5, Tryd.ntmps5
  go_wp2_with fail
  refine (awake_any w HT.out).mono ?_
  rintro e w1 ⟨rfl, hb1⟩
  have B1 := hid hb1
  clear hb1
  go_wp2_with fail
  refine (check_any a w1 (by have := HA.out; unfold maxLen; omega) (hdec_of (tabs_below HT.out (tabs_size HT.out) B1.out) a)).mono ?_
  rintro e w2 ⟨rfl, hb2⟩
  have B2 := hid (B1.out.trans (hb2.mono B1.out.size))
  clear hb2
  go_wp2_with fail
  refine (check_any b w2 (by have := HB.out; unfold maxLen; omega) (hdec_of (tabs_below HT.out (tabs_size HT.out) B2.out) b)).mono ?_
  rintro e w3 ⟨rfl, hb3⟩
  have B3 := hid (B2.out.trans (hb3.mono B2.out.size))
  clear hb3
  go_wp2_with fail
  refine (check_any (a ++ b) w3 (by have := HAB.out; unfold maxLen; omega) (hdec_of (tabs_below HT.out (tabs_size HT.out) B3.out) (a ++ b))).mono ?_
  rintro e w4 ⟨rfl, hb4⟩
  have B4 := hid (B3.out.trans (hb4.mono B3.out.size))
  clear hb4
  have L0 := both_ok a b
  have L1 := both_bad a b
  have n1 := chk_n0 (a ++ b)
  have k1 := chk_le a a.size 0 0 (by omega) (by omega)
  have k2 := chk_le b b.size 0 0 (by omega) (by omega)
  have ha := HA.out
  have hb := HB.out
  generalize (chkA a 0 0).1 = na at *
  generalize (chkA b 0 0).1 = nb at *
  generalize (chkA (a ++ b) 0 0).1 = nc at *
  generalize (chkA a 0 0).2.2 = ea at *
  generalize (chkA b 0 0).2.2 = eb at *
  generalize (chkA (a ++ b) 0 0).2.2 = ec at *
  by_cases h1 : ea = 0
  · by_cases h2 : eb = 0
    · obtain ⟨q1, q2⟩ := L0 h1 h2
      subst h1 h2 q1 q2
      have iw : IntKind.i64.wrap ((na : Int) + (nb : Int)) = ((na + nb : Nat) : Int) := by rw [IntWalk.i64_in _ (by omega)]; omega
      clear L0 L1 n1 k1 k2 ha hb
      go_wp2
      go_ret
      exact ⟨rfl, B4.out⟩
    · subst h1
      rcases L1 (.inr h2) with q | ⟨q, -, -⟩
      · subst q
        clear L0 L1 n1 k1 k2 ha hb
        go_wp2
        go_ret
        exact ⟨rfl, B4.out⟩
      · exact absurd rfl q
  · rcases L1 (.inl h1) with q | ⟨-, h2, h3⟩
    · subst q
      clear L0 L1 n1 k1 k2 ha hb
      go_wp2
      go_ret
      exact ⟨rfl, B4.out⟩
    · subst h3
      by_cases q : nc = 0
      · subst q
        clear L0 L1 n1 k1 k2 ha hb
        go_wp2
        go_ret
        exact ⟨rfl, B4.out⟩
      · have qi : ((nc : Int) == 0) = false := by rw [beq_eq_false_iff_ne]; omega
        have ka : (ea != 0) = true := by rw [bne_iff_ne]; exact h1
        have kb : (eb != 0) = true := by rw [bne_iff_ne]; exact h2
        clear L0 L1 n1 k1 k2 ha hb q
        go_wp2
        go_ret
        exact ⟨rfl, B4.out⟩
end Go.Proofs.YtlciijcfhfcbkaaDoor
