/- Chapter 8's reference heap: Len, Min. -/
import Derived.Test.YthdbiablpkeagaaRfA
namespace Go.Proofs.Ythdbiablpkeagaa
open Go.RowKit
variable {B H g cap : Nat} {w w' : World} {s s' : Hp} {v : Value}
def cnt (s : Hp) (i : Nat) : Nat := (List.range i).countP s.th
theorem cnt_next (s : Hp) (i : Nat) : cnt s (i + 1) = cnt s i + if s.th i then 1 else 0 := by
  unfold cnt
  rw [List.range_succ, List.countP_append]
  simp
theorem cnt_le (s : Hp) (i : Nat) : cnt s i ≤ i := by
  unfold cnt
  refine Nat.le_trans List.countP_le_length ?_
  rw [List.length_range]
  exact Nat.le_refl _
set_option maxRecDepth 20000 in
set_option maxHeartbeats 4000000 in
theorem rlen_g (h : RefV B w H v s) (hm : s.m ≤ 1048576) : Calls Try.prog 20 #[.pointer (some ⟨H, 0, none⟩)] w fun e w' => e = .returned (.int .i64 (cnt s s.m)) ∧ w = w' := by
  obtain ⟨c0, cf, A, cap, rfl⟩ := h.head
  have hl := h.ltH
  have HH := hid h
  have HM := hid hm
  obtain ⟨m, hmm⟩ : ∃ m, m = s.m := ⟨_, rfl⟩
  rw [← hmm] at c0 ⊢
  have hmb : (m : Int) ≤ 1048576 := by omega
  have HMM := hid hmm
  clear h hm hmm
  go_enter Try.func20, Try.ntmps20
  go_wp2_with fail
  go_loopw [3, 4] (fun nv iv wr => ∃ i : Nat, i ≤ m ∧ nv = .int .i64 (cnt s i) ∧ iv = .int .i64 i ∧ wr = w) (fun _ iv _ => m - (intOf iv).toNat)
  case atStart => exact ⟨0, Nat.zero_le _, rfl, rfl, rfl⟩
  case round =>
    obtain ⟨i, hi, rfl, rfl, rfl⟩ := hrel
    by_cases him : i < m
    · have HK1 : Hid (i + 1 ≤ m) := him
      have HMS : Hid (m - (i + 1) < m - i) := by unfold Hid; omega
      have hii : (i : Int) < (m : Int) := by omega
      have hib : (i : Int) ≤ 1048576 := by omega
      have hcb : (cnt s i : Int) ≤ 1048576 := by have := cnt_le s i; omega
      obtain ⟨g, cap2, e, -, hgl, gf, hc⟩ := HH.out.open_ (by have := HMM.out; omega)
      obtain ⟨-, -, -, k3⟩ := hc i (by have := HMM.out; omega)
      rw [← HMM.out] at e
      injection e with e e7 e6
      subst e
      subst e6
      have HN := hid (cnt_next s i)
      clear e7 hc hi him
      cases ht : s.th i with
      | true =>
        rw [ht] at k3 HN
        have HN2 : Hid (cnt s (i + 1) = cnt s i + 1) := HN.out
        clear HN ht
        go_wp2
        go_roundw
        case rel => exact ⟨i + 1, HK1.out, by rw [HN2.out]; go_num, by go_num, by trivial⟩
        case measure => have := HMS.out; simp [intOf]; omega
      | false =>
        rw [ht] at k3 HN
        have HN2 : Hid (cnt s (i + 1) = cnt s i) := HN.out
        clear HN ht
        go_wp2
        go_roundw
        case rel => exact ⟨i + 1, HK1.out, by rw [HN2.out], by go_num, by trivial⟩
        case measure => have := HMS.out; simp [intOf]; omega
    · obtain rfl : i = m := by omega
      clear hi him
      go_wp2
      go_ret
      exact ⟨rfl, rfl⟩
/-- The least one of those below i. -/
def Best (s : Hp) (i : Nat) (b : Int) : Prop := (b = -1 ∧ ∀ z, z < i → s.th z = false) ∨ ∃ y : Nat, b = (y : Int) ∧ y < i ∧ s.th y = true ∧ ∀ z, z < i → s.th z = true → z = y ∨ s.lt y z
theorem comp_neg {k l : K3} (hk : okK k) (hl : okK l) : compI k l < 0 ↔ k.1 * l.2.1 < l.1 * k.2.1 ∨ (k.1 * l.2.1 = l.1 * k.2.1 ∧ k.2.2 < l.2.2) := by
  have e : cmpR k.1 k.2.1 l.1 l.2.1 = (cmpZ (k.1 * l.2.1) (l.1 * k.2.1), 0) := by
    unfold cmpR
    rw [if_neg (by have := hk.2; have := hl.2; omega)]
  unfold compI
  rw [e]
  unfold cmpZ
  simp only
  repeat' split
  all_goals omega
theorem Best.first {i : Nat} (h : Best s i (-1)) (ht : s.th i = true) : Best s (i + 1) (i : Int) := by
  rcases h with ⟨-, h⟩ | ⟨y, e, -⟩
  · refine .inr ⟨i, rfl, by omega, ht, fun z hz tz => ?_⟩
    by_cases q : z = i
    · exact .inl q
    · rw [h z (by omega)] at tz; cases tz
  · omega
theorem Best.skip {i : Nat} {b : Int} (h : Best s i b) (ht : s.th i = false) : Best s (i + 1) b := by
  rcases h with ⟨e, h⟩ | ⟨y, e, h1, h2, h3⟩
  · refine .inl ⟨e, fun z hz => ?_⟩
    by_cases q : z = i
    · rw [q]; exact ht
    · exact h z (by omega)
  · refine .inr ⟨y, e, by omega, h2, fun z hz tz => ?_⟩
    by_cases q : z = i
    · rw [q, ht] at tz; cases tz
    · exact h3 z (by omega) tz
theorem Best.cmp {i y : Nat} (h : Best s i (y : Int)) (ht : s.th i = true) (hok : ∀ z, s.th z = true → okK (s.key z)) : (s.th y = true ∧ y < i) ∧ (compI (s.key i) (s.key y) < 0 → Best s (i + 1) (i : Int)) ∧ (¬ compI (s.key i) (s.key y) < 0 → Best s (i + 1) (y : Int)) := by
  rcases h with ⟨e, h⟩ | ⟨y', e, h1, h2, h3⟩
  · omega
  · have : y' = y := by omega
    subst this
    have hc := comp_neg (hok i ht) (hok y' h2)
    refine ⟨⟨h2, h1⟩, fun hl => .inr ⟨i, rfl, by omega, ht, fun z hz tz => ?_⟩, fun hl => .inr ⟨y', rfl, by omega, h2, fun z hz tz => ?_⟩⟩
    · have hly : s.lt i y' := by
        have := hc.1 hl
        unfold Hp.lt Ltk
        omega
      by_cases q : z = i
      · exact .inl q
      · rcases h3 z (by omega) tz with rfl | q2
        · exact .inr hly
        · exact .inr (ltk_tr (hok i ht) (hok y' h2) (hok z tz) hly q2)
    · by_cases q : z = i
      · subst q
        right
        have h4 := fun hh => hl (hc.2 hh)
        unfold Hp.lt Ltk
        omega
      · exact h3 z (by omega) tz
end Go.Proofs.Ythdbiablpkeagaa
