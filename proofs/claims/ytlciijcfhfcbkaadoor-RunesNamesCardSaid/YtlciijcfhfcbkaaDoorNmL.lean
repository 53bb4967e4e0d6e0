/- Chapter 1: the walk of RunesNames. -/
import Derived.Test.YtlciijcfhfcbkaaDoorNmW
import Derived.Test.YtlciijcfhfcbkaaDoorWrL
namespace Go.Proofs.YtlciijcfhfcbkaaDoor
open Go.RowKit
def bA : ByteArray := ⟨#[65]⟩
theorem get_left (a b : ByteArray) (j : Nat) (h : j < a.size) : (a ++ b).get! j = a.get! j := by
  rw [get_app, if_pos h]
theorem get_right (a b : ByteArray) (j : Nat) (_h : j < b.size) : (a ++ b).get! (a.size + j) = b.get! j := by
  rw [get_app, if_neg (by omega)]
  congr 1
  omega
theorem no_behind (a : ByteArray) : nameB (a ++ spc) = false := by
  refine name_no_byte (j := a.size) (by rw [size_app]; show a.size < a.size + 1; omega) ?_
  have := get_right a spc 0 (by show 0 < 1; omega)
  rw [Nat.add_zero] at this
  rw [this]
  exact fun h => (NB_no h).1 rfl
theorem no_ahead (b : ByteArray) : nameB (spc ++ b) = false := by
  refine name_no_byte (j := 0) (by rw [size_app]; show 0 < 1 + b.size; omega) ?_
  rw [get_left spc b 0 (by show 0 < 1; omega)]
  exact fun h => (NB_no h).1 rfl
theorem no_great (a : ByteArray) : nameB (a ++ bA) = false := by
  refine name_no_byte (j := a.size) (by rw [size_app]; show a.size < a.size + 1; omega) ?_
  have := get_right a bA 0 (by show 0 < 1; omega)
  rw [Nat.add_zero] at this
  rw [this]
  exact fun h => (NB_no h).2.2.2 rfl
theorem name_is {s : ByteArray} {x : Bool} (h : nameB s = x) (w : World) (hs : s.size ≤ maxLen) : Calls Tryd.prog 11 #[.string s] w fun e w' => e = .returned (.bool x) ∧ Below w.heap.size w w' := by
  subst h; exact name_any s w hs
theorem str_self (a : ByteArray) : (a.toList == a.toList) = true := by simp
set_option maxRecDepth 20000 in
set_option maxHeartbeats 4000000 in
/-- RunesNames. -/
theorem names_walk (a b : ByteArray) (w : World) (ha : a.size ≤ 140737488351232) (hb : b.size ≤ 140737488351232) (hT : Lib.Utf8Tabs 0 1 w) : Calls Tryd.prog 7 #[.string a, .string b] w fun e w' => e = .returned (.bool true) ∧ Below w.heap.size w w' := by
  have HT := hid hT
  clear hT
  have HA := hid ha
  have HB := hid hb
  clear ha hb
  have h1 : ¬ (9223372036854775807 < a.size + 1) := by have := HA.out; omega
  have h2 : ¬ (9223372036854775807 < 1 + b.size) := by have := HB.out; omega
  have h3 : ¬ (9223372036854775807 < a.size + b.size) := by have := HA.out; have := HB.out; omega
  have h4 : ¬ (9223372036854775807 < a.size + 1 + b.size) := by have := HA.out; have := HB.out; omega
  have NA := hid (fun W => name_is (no_behind a) W (by have := HA.out; unfold maxLen; rw [size_app]; show a.size + 1 ≤ _; omega))
  have NB' := hid (fun W => name_is (no_ahead b) W (by have := HB.out; unfold maxLen; rw [size_app]; show 1 + b.size ≤ _; omega))
  have NG := hid (fun W => name_is (no_great a) W (by have := HA.out; unfold maxLen; rw [size_app]; show a.size + 1 ≤ _; omega))
  have NX := hid (fun x (h : nameB a = x) W => name_is h W (by have := HA.out; unfold maxLen; omega))
  have NY := hid (fun x (h : nameB b = x) W => name_is h W (by have := HB.out; unfold maxLen; omega))
  go_enter Tryd.func7, Tryd.ntmps7
  go_wp2_with fail
  refine (awake_any w HT.out).mono ?_
  rintro e w1 ⟨rfl, hb1⟩
  have B1 := hid hb1
  clear hb1
  cases hna : nameB a with
  | false =>
    go_wp2_with fail
    refine (NX.out false hna w1).mono ?_
    rintro e w2 ⟨rfl, hb2⟩
    have B2 := hid (B1.out.trans (hb2.mono B1.out.size))
    clear hb2
    go_wp2_with fail
    refine (NA.out w2).mono ?_
    rintro e w3 ⟨rfl, hb3⟩
    have B3 := hid (B2.out.trans (hb3.mono B2.out.size))
    clear hb3
    go_wp2_with fail
    refine (NB'.out w3).mono ?_
    rintro e w4 ⟨rfl, hb4⟩
    have B4 := hid (B3.out.trans (hb4.mono B3.out.size))
    clear hb4
    go_wp2
    go_ret
    exact ⟨rfl, B4.out⟩
  | true =>
  go_wp2_with fail
  refine (NX.out true hna w1).mono ?_
  rintro e w2 ⟨rfl, hb2⟩
  have B2 := hid (B1.out.trans (hb2.mono B1.out.size))
  clear hb2
  cases hnb : nameB b with
  | false =>
    go_wp2_with fail
    refine (NY.out false hnb w2).mono ?_
    rintro e w3 ⟨rfl, hb3⟩
    have B3 := hid (B2.out.trans (hb3.mono B2.out.size))
    clear hb3
    go_wp2_with fail
    refine (NA.out w3).mono ?_
    rintro e w4 ⟨rfl, hb4⟩
    have B4 := hid (B3.out.trans (hb4.mono B3.out.size))
    clear hb4
    go_wp2_with fail
    refine (NB'.out w4).mono ?_
    rintro e w5 ⟨rfl, hb5⟩
    have B5 := hid (B4.out.trans (hb5.mono B4.out.size))
    clear hb5
    go_wp2
    go_ret
    exact ⟨rfl, B5.out⟩
  | true =>
  go_wp2_with fail
  refine (NY.out true hnb w2).mono ?_
  rintro e w3 ⟨rfl, hb3⟩
  have B3 := hid (B2.out.trans (hb3.mono B2.out.size))
  clear hb3
  have za := name_size hna
  have zb := name_size hnb
  have T2 := hid (two_names hna hnb)
  obtain ⟨m, hm, hmn⟩ := both_names hna hnb
  have HM := hid hm
  have HMN := hid hmn
  have QA := hid (fun W => quote_name a W hna)
  have S3 : Hid ((a ++ spc ++ b).size ≤ 4294967296) := by unfold Hid; rw [size_app, size_app]; show a.size + 1 + b.size ≤ _; omega
  have S2 : Hid ((a ++ b).size ≤ maxLen) := by unfold Hid; rw [size_app]; unfold maxLen; omega
  clear hna hnb za zb hm hmn
  go_wp2_with fail
  refine (words_any (a ++ spc ++ b) w3 S3.out (hdec_of (tabs_below HT.out (tabs_size HT.out) B3.out) _)).mono ?_
  rintro e w4 ⟨v, rfl, hrow, hb4⟩
  rw [T2.out] at hrow ⊢
  have B4 := hid (B3.out.trans (hb4.mono B3.out.size))
  obtain ⟨g, cap, rfl, hgl, hcell⟩ := rowS_cells hrow (by simp)
  have c0 := hcell 0 (by simp)
  have c1 := hcell 1 (by simp)
  simp only [List.getD_cons_zero, List.getD_cons_succ] at c0 c1
  clear hb4 hrow hcell
  go_wp2_with fail
  refine (check_any (a ++ b) w4 S2.out (hdec_of (tabs_below HT.out (tabs_size HT.out) B4.out) _)).mono ?_
  rintro e w5 ⟨rfl, hb5⟩
  rw [HM.out]
  have B5 := hid (B4.out.trans (hb5.mono B4.out.size))
  have e0 := (hb5.cell (p := ⟨g, 0, none⟩) hgl).trans c0
  have e1 := (hb5.cell (p := ⟨g, 1, none⟩) hgl).trans c1
  have hg5 := Nat.lt_of_lt_of_le hgl hb5.size
  clear hb5 c0 c1 hgl
  have ss := str_self a
  have sb := str_self b
  go_wp2_with fail
  refine (QA.out w5).mono ?_
  rintro e w6 ⟨rfl, hb6⟩
  have B6 := hid (B5.out.trans (hb6.mono B5.out.size))
  clear hb6 e0 e1 hg5
  go_wp2_with fail
  refine (name_is HMN.out w6 S2.out).mono ?_
  rintro e w7 ⟨rfl, hb7⟩
  have B7 := hid (B6.out.trans (hb7.mono B6.out.size))
  clear hb7
  have hmm : (decide (m ≤ 16) == decide ((m : Int) ≤ 16)) = true := by
    rw [beq_iff_eq]
    by_cases h : m ≤ 16
    · rw [decide_eq_true h, decide_eq_true (by omega)]
    · rw [decide_eq_false h, decide_eq_false (by omega)]
  go_wp2_with fail
  refine (NG.out w7).mono ?_
  rintro e w8 ⟨rfl, hb8⟩
  have B8 := hid (B7.out.trans (hb8.mono B7.out.size))
  clear hb8
  go_wp2
  go_ret
  exact ⟨rfl, B8.out⟩
end Go.Proofs.YtlciijcfhfcbkaaDoor
