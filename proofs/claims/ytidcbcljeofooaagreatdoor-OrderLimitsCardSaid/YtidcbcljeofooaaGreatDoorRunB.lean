/- Chapter 1: the contract of the reference's Rune. -/
import Derived.Test.YtidcbcljeofooaaGreatDoorRunC
namespace Go.Proofs.YtidcbcljeofooaaGreatDoor
open Go.RowKit
set_option maxHeartbeats 4000000 in
set_option maxRecDepth 20000 in
theorem rune_any (s : ByteArray) (i : Nat) (w : World) (hs : s.size ≤ 281474976710656) (hi : i < s.size) :
    Calls Tryz.prog 71 #[.string s, .int .i64 i] w fun e w' => e = .returned (.tuple #[.int .i64 (runeAt s i).1, .int .i64 (runeAt s i).2]) ∧ Below w.heap.size w w' := by
  have hsz := hs
  have hii : (i : Int) < (s.size : Int) := by omega
  obtain ⟨x0, hx0⟩ : ∃ x0, s[i]'hi = x0 := ⟨_, rfl⟩
  have hb0 : x0.toNat < 256 := x0.toNat_lt
  have hr := runeAt_eq s i
  rw [get_at s i hi, hx0] at hr
  have HR := hid hr
  clear hs hr
  go_enter Tryz.func71, Tryz.ntmps71
  by_cases k1 : x0.toNat < 128
  · have hv : Hid (runeAt s i = (x0.toNat, 1)) := HR.out.trans (runeN_one k1)
    have c1 : (x0.toNat : Int) < 128 := by omega
    go_wp2
    go_ret2
    refine ⟨?_, Below.refl _ _⟩
    rw [hv.out]
    rfl
  have c1 : ¬ (x0.toNat : Int) < 128 := by omega
  by_cases k2 : x0.toNat / 32 = 6
  · have t2 : ((x0.toNat : Int) / 32 == 6) = true := by rw [beq_iff_eq]; omega
    have iw : IntKind.i64.wrap ((i : Int) + 2) = (i : Int) + 2 := IntWalk.i64_in _ (by omega)
    by_cases kl : i + 2 ≤ s.size
    · have l : (i : Int) + 2 ≤ (s.size : Int) := by omega
      have g1 : i + 1 < s.size := by omega
      obtain ⟨x1, hx1⟩ : ∃ x, s[i + 1]'g1 = x := ⟨_, rfl⟩
      have hb1 : x1.toNat < 256 := x1.toNat_lt
      have iw1 : IntKind.i64.wrap ((i : Int) + 1) = (i : Int) + 1 := IntWalk.i64_in _ (by omega)
      have it1 : ((i : Int) + 1).toNat = i + 1 := by omega
      have iz1 : (0 : Int) ≤ (i : Int) + 1 := by omega
      have il1 : (i : Int) + 1 < (s.size : Int) := by omega
      have hr1 := (get_at s (i + 1) g1).trans hx1
      have HR2 := hid HR.out
      unfold Hid at HR2
      rw [hr1] at HR2
      have HR3 := hid HR2
      clear HR2 hr1 kl
      by_cases e1 : x1.toNat / 64 = 2
      case neg =>
        have hv : Hid (runeAt s i = (0, 0)) := HR3.out.trans (runeN_lack2 k2 (by omega))
        have u : ((x1.toNat : Int) / 64 != 2) = true := by rw [bne_iff_ne]; omega
        clear e1
        go_upto_region 15 with fail
        refine wp_loop_rounds 2 ?_
        repeat any_goals (rw [rounds_succ]; go_wp2)
        go_ret2
        refine ⟨?_, Below.refl _ _⟩
        rw [hv.out]
        rfl
      have u1 : ((x1.toNat : Int) / 64 != 2) = false := by rw [bne_eq_false_iff_eq]; omega
      have HO : Hid (128 ≤ x0.toNat % 32 * 64 + x1.toNat % 64 → runeAt s i = (x0.toNat % 32 * 64 + x1.toNat % 64, 2)) := fun hq => HR3.out.trans (runeN_ok2 k2 (by omega) hq)
      have HB : Hid (¬ (128 ≤ x0.toNat % 32 * 64 + x1.toNat % 64) → runeAt s i = (0, 0)) := fun hq => HR3.out.trans (runeN_bad2 k2 (by omega) (by omega))
      have HV : Hid (((x0.toNat % 32 * 64 + x1.toNat % 64 : Nat) : Int) = (x0.toNat : Int) % 32 * 64 + (x1.toNat : Int) % 64) := by unfold Hid; omega
      clear e1 k2
      go_upto_region 15 with fail
      refine wp_loop_rounds 2 ?_
      repeat any_goals (rw [rounds_succ]; go_wp2)
      all_goals (
        by_cases hq : 128 ≤ x0.toNat % 32 * 64 + x1.toNat % 64
        · first | (exfalso; omega) | (go_ret2; refine ⟨?_, Below.refl _ _⟩; rw [HO.out hq]; simp only [HV.out]; rfl)
        · first | (exfalso; omega) | (go_ret2; refine ⟨?_, Below.refl _ _⟩; rw [HB.out hq]; rfl))
    · have l : (s.size : Int) < (i : Int) + 2 := by omega
      have hv : Hid (runeAt s i = (0, 0)) := HR.out.trans (runeN_lack2 k2 (by omega))
      clear kl k2
      go_wp2
      go_ret2
      refine ⟨?_, Below.refl _ _⟩
      rw [hv.out]
      rfl
  by_cases k3 : x0.toNat / 16 = 14
  · have t2 : ((x0.toNat : Int) / 32 == 6) = false := by rw [beq_eq_false_iff_ne]; omega
    have t3 : ((x0.toNat : Int) / 16 == 14) = true := by rw [beq_iff_eq]; omega
    have iw : IntKind.i64.wrap ((i : Int) + 3) = (i : Int) + 3 := IntWalk.i64_in _ (by omega)
    by_cases kl : i + 3 ≤ s.size
    · have l : (i : Int) + 3 ≤ (s.size : Int) := by omega
      have g1 : i + 1 < s.size := by omega
      obtain ⟨x1, hx1⟩ : ∃ x, s[i + 1]'g1 = x := ⟨_, rfl⟩
      have hb1 : x1.toNat < 256 := x1.toNat_lt
      have iw1 : IntKind.i64.wrap ((i : Int) + 1) = (i : Int) + 1 := IntWalk.i64_in _ (by omega)
      have it1 : ((i : Int) + 1).toNat = i + 1 := by omega
      have iz1 : (0 : Int) ≤ (i : Int) + 1 := by omega
      have il1 : (i : Int) + 1 < (s.size : Int) := by omega
      have hr1 := (get_at s (i + 1) g1).trans hx1
      have g2 : i + 2 < s.size := by omega
      obtain ⟨x2, hx2⟩ : ∃ x, s[i + 2]'g2 = x := ⟨_, rfl⟩
      have hb2 : x2.toNat < 256 := x2.toNat_lt
      have iw2 : IntKind.i64.wrap ((i : Int) + 2) = (i : Int) + 2 := IntWalk.i64_in _ (by omega)
      have it2 : ((i : Int) + 2).toNat = i + 2 := by omega
      have iz2 : (0 : Int) ≤ (i : Int) + 2 := by omega
      have il2 : (i : Int) + 2 < (s.size : Int) := by omega
      have hr2 := (get_at s (i + 2) g2).trans hx2
      have HR2 := hid HR.out
      unfold Hid at HR2
      rw [hr1, hr2] at HR2
      have HR3 := hid HR2
      clear HR2 hr1 hr2 kl
      by_cases e1 : x1.toNat / 64 = 2
      case neg =>
        have hv : Hid (runeAt s i = (0, 0)) := HR3.out.trans (runeN_lack3 k3 (by omega))
        have u : ((x1.toNat : Int) / 64 != 2) = true := by rw [bne_iff_ne]; omega
        clear e1
        go_upto_region 15 with fail
        refine wp_loop_rounds 3 ?_
        repeat any_goals (rw [rounds_succ]; go_wp2)
        go_ret2
        refine ⟨?_, Below.refl _ _⟩
        rw [hv.out]
        rfl
      have u1 : ((x1.toNat : Int) / 64 != 2) = false := by rw [bne_eq_false_iff_eq]; omega
      by_cases e2 : x2.toNat / 64 = 2
      case neg =>
        have hv : Hid (runeAt s i = (0, 0)) := HR3.out.trans (runeN_lack3 k3 (by omega))
        have u : ((x2.toNat : Int) / 64 != 2) = true := by rw [bne_iff_ne]; omega
        clear e2
        go_upto_region 15 with fail
        refine wp_loop_rounds 3 ?_
        repeat any_goals (rw [rounds_succ]; go_wp2)
        go_ret2
        refine ⟨?_, Below.refl _ _⟩
        rw [hv.out]
        rfl
      have u2 : ((x2.toNat : Int) / 64 != 2) = false := by rw [bne_eq_false_iff_eq]; omega
      have HO : Hid (2048 ≤ x0.toNat % 16 * 4096 + x1.toNat % 64 * 64 + x2.toNat % 64 ∧ ¬ (55296 ≤ x0.toNat % 16 * 4096 + x1.toNat % 64 * 64 + x2.toNat % 64 ∧ x0.toNat % 16 * 4096 + x1.toNat % 64 * 64 + x2.toNat % 64 ≤ 57343) ∧ x0.toNat % 16 * 4096 + x1.toNat % 64 * 64 + x2.toNat % 64 ≤ 1114111 → runeAt s i = (x0.toNat % 16 * 4096 + x1.toNat % 64 * 64 + x2.toNat % 64, 3)) := fun hq => HR3.out.trans (runeN_ok3 k3 (by omega) hq)
      have HB : Hid (¬ (2048 ≤ x0.toNat % 16 * 4096 + x1.toNat % 64 * 64 + x2.toNat % 64 ∧ ¬ (55296 ≤ x0.toNat % 16 * 4096 + x1.toNat % 64 * 64 + x2.toNat % 64 ∧ x0.toNat % 16 * 4096 + x1.toNat % 64 * 64 + x2.toNat % 64 ≤ 57343) ∧ x0.toNat % 16 * 4096 + x1.toNat % 64 * 64 + x2.toNat % 64 ≤ 1114111) → runeAt s i = (0, 0)) := fun hq => HR3.out.trans (runeN_bad3 k3 (by omega) (by omega))
      have HV : Hid (((x0.toNat % 16 * 4096 + x1.toNat % 64 * 64 + x2.toNat % 64 : Nat) : Int) = ((x0.toNat : Int) % 16 * 64 + (x1.toNat : Int) % 64) * 64 + (x2.toNat : Int) % 64) := by unfold Hid; omega
      clear e1 e2 k3
      go_upto_region 15 with fail
      refine wp_loop_rounds 3 ?_
      repeat any_goals (rw [rounds_succ]; go_wp2)
      all_goals (
        by_cases hq : 2048 ≤ x0.toNat % 16 * 4096 + x1.toNat % 64 * 64 + x2.toNat % 64 ∧ ¬ (55296 ≤ x0.toNat % 16 * 4096 + x1.toNat % 64 * 64 + x2.toNat % 64 ∧ x0.toNat % 16 * 4096 + x1.toNat % 64 * 64 + x2.toNat % 64 ≤ 57343) ∧ x0.toNat % 16 * 4096 + x1.toNat % 64 * 64 + x2.toNat % 64 ≤ 1114111
        · first | (exfalso; omega) | (go_ret2; refine ⟨?_, Below.refl _ _⟩; rw [HO.out hq]; simp only [HV.out]; rfl)
        · first | (exfalso; omega) | (go_ret2; refine ⟨?_, Below.refl _ _⟩; rw [HB.out hq]; rfl))
    · have l : (s.size : Int) < (i : Int) + 3 := by omega
      have hv : Hid (runeAt s i = (0, 0)) := HR.out.trans (runeN_lack3 k3 (by omega))
      clear kl k3
      go_wp2
      go_ret2
      refine ⟨?_, Below.refl _ _⟩
      rw [hv.out]
      rfl
  by_cases k4 : x0.toNat / 8 = 30
  · have t2 : ((x0.toNat : Int) / 32 == 6) = false := by rw [beq_eq_false_iff_ne]; omega
    have t3 : ((x0.toNat : Int) / 16 == 14) = false := by rw [beq_eq_false_iff_ne]; omega
    have t4 : ((x0.toNat : Int) / 8 == 30) = true := by rw [beq_iff_eq]; omega
    have iw : IntKind.i64.wrap ((i : Int) + 4) = (i : Int) + 4 := IntWalk.i64_in _ (by omega)
    by_cases kl : i + 4 ≤ s.size
    · have l : (i : Int) + 4 ≤ (s.size : Int) := by omega
      have g1 : i + 1 < s.size := by omega
      obtain ⟨x1, hx1⟩ : ∃ x, s[i + 1]'g1 = x := ⟨_, rfl⟩
      have hb1 : x1.toNat < 256 := x1.toNat_lt
      have iw1 : IntKind.i64.wrap ((i : Int) + 1) = (i : Int) + 1 := IntWalk.i64_in _ (by omega)
      have it1 : ((i : Int) + 1).toNat = i + 1 := by omega
      have iz1 : (0 : Int) ≤ (i : Int) + 1 := by omega
      have il1 : (i : Int) + 1 < (s.size : Int) := by omega
      have hr1 := (get_at s (i + 1) g1).trans hx1
      have g2 : i + 2 < s.size := by omega
      obtain ⟨x2, hx2⟩ : ∃ x, s[i + 2]'g2 = x := ⟨_, rfl⟩
      have hb2 : x2.toNat < 256 := x2.toNat_lt
      have iw2 : IntKind.i64.wrap ((i : Int) + 2) = (i : Int) + 2 := IntWalk.i64_in _ (by omega)
      have it2 : ((i : Int) + 2).toNat = i + 2 := by omega
      have iz2 : (0 : Int) ≤ (i : Int) + 2 := by omega
      have il2 : (i : Int) + 2 < (s.size : Int) := by omega
      have hr2 := (get_at s (i + 2) g2).trans hx2
      have g3 : i + 3 < s.size := by omega
      obtain ⟨x3, hx3⟩ : ∃ x, s[i + 3]'g3 = x := ⟨_, rfl⟩
      have hb3 : x3.toNat < 256 := x3.toNat_lt
      have iw3 : IntKind.i64.wrap ((i : Int) + 3) = (i : Int) + 3 := IntWalk.i64_in _ (by omega)
      have it3 : ((i : Int) + 3).toNat = i + 3 := by omega
      have iz3 : (0 : Int) ≤ (i : Int) + 3 := by omega
      have il3 : (i : Int) + 3 < (s.size : Int) := by omega
      have hr3 := (get_at s (i + 3) g3).trans hx3
      have HR2 := hid HR.out
      unfold Hid at HR2
      rw [hr1, hr2, hr3] at HR2
      have HR3 := hid HR2
      clear HR2 hr1 hr2 hr3 kl
      by_cases e1 : x1.toNat / 64 = 2
      case neg =>
        have hv : Hid (runeAt s i = (0, 0)) := HR3.out.trans (runeN_lack4 k4 (by omega))
        have u : ((x1.toNat : Int) / 64 != 2) = true := by rw [bne_iff_ne]; omega
        clear e1
        go_upto_region 15 with fail
        refine wp_loop_rounds 4 ?_
        repeat any_goals (rw [rounds_succ]; go_wp2)
        go_ret2
        refine ⟨?_, Below.refl _ _⟩
        rw [hv.out]
        rfl
      have u1 : ((x1.toNat : Int) / 64 != 2) = false := by rw [bne_eq_false_iff_eq]; omega
      by_cases e2 : x2.toNat / 64 = 2
      case neg =>
        have hv : Hid (runeAt s i = (0, 0)) := HR3.out.trans (runeN_lack4 k4 (by omega))
        have u : ((x2.toNat : Int) / 64 != 2) = true := by rw [bne_iff_ne]; omega
        clear e2
        go_upto_region 15 with fail
        refine wp_loop_rounds 4 ?_
        repeat any_goals (rw [rounds_succ]; go_wp2)
        go_ret2
        refine ⟨?_, Below.refl _ _⟩
        rw [hv.out]
        rfl
      have u2 : ((x2.toNat : Int) / 64 != 2) = false := by rw [bne_eq_false_iff_eq]; omega
      by_cases e3 : x3.toNat / 64 = 2
      case neg =>
        have hv : Hid (runeAt s i = (0, 0)) := HR3.out.trans (runeN_lack4 k4 (by omega))
        have u : ((x3.toNat : Int) / 64 != 2) = true := by rw [bne_iff_ne]; omega
        clear e3
        go_upto_region 15 with fail
        refine wp_loop_rounds 4 ?_
        repeat any_goals (rw [rounds_succ]; go_wp2)
        go_ret2
        refine ⟨?_, Below.refl _ _⟩
        rw [hv.out]
        rfl
      have u3 : ((x3.toNat : Int) / 64 != 2) = false := by rw [bne_eq_false_iff_eq]; omega
      have HO : Hid (65536 ≤ x0.toNat % 8 * 262144 + x1.toNat % 64 * 4096 + x2.toNat % 64 * 64 + x3.toNat % 64 ∧ ¬ (55296 ≤ x0.toNat % 8 * 262144 + x1.toNat % 64 * 4096 + x2.toNat % 64 * 64 + x3.toNat % 64 ∧ x0.toNat % 8 * 262144 + x1.toNat % 64 * 4096 + x2.toNat % 64 * 64 + x3.toNat % 64 ≤ 57343) ∧ x0.toNat % 8 * 262144 + x1.toNat % 64 * 4096 + x2.toNat % 64 * 64 + x3.toNat % 64 ≤ 1114111 → runeAt s i = (x0.toNat % 8 * 262144 + x1.toNat % 64 * 4096 + x2.toNat % 64 * 64 + x3.toNat % 64, 4)) := fun hq => HR3.out.trans (runeN_ok4 k4 (by omega) hq)
      have HB : Hid (¬ (65536 ≤ x0.toNat % 8 * 262144 + x1.toNat % 64 * 4096 + x2.toNat % 64 * 64 + x3.toNat % 64 ∧ ¬ (55296 ≤ x0.toNat % 8 * 262144 + x1.toNat % 64 * 4096 + x2.toNat % 64 * 64 + x3.toNat % 64 ∧ x0.toNat % 8 * 262144 + x1.toNat % 64 * 4096 + x2.toNat % 64 * 64 + x3.toNat % 64 ≤ 57343) ∧ x0.toNat % 8 * 262144 + x1.toNat % 64 * 4096 + x2.toNat % 64 * 64 + x3.toNat % 64 ≤ 1114111) → runeAt s i = (0, 0)) := fun hq => HR3.out.trans (runeN_bad4 k4 (by omega) (by omega))
      have HV : Hid (((x0.toNat % 8 * 262144 + x1.toNat % 64 * 4096 + x2.toNat % 64 * 64 + x3.toNat % 64 : Nat) : Int) = (((x0.toNat : Int) % 8 * 64 + (x1.toNat : Int) % 64) * 64 + (x2.toNat : Int) % 64) * 64 + (x3.toNat : Int) % 64) := by unfold Hid; omega
      clear e1 e2 e3 k4
      go_upto_region 15 with fail
      refine wp_loop_rounds 4 ?_
      repeat any_goals (rw [rounds_succ]; go_wp2)
      all_goals (
        by_cases hq : 65536 ≤ x0.toNat % 8 * 262144 + x1.toNat % 64 * 4096 + x2.toNat % 64 * 64 + x3.toNat % 64 ∧ ¬ (55296 ≤ x0.toNat % 8 * 262144 + x1.toNat % 64 * 4096 + x2.toNat % 64 * 64 + x3.toNat % 64 ∧ x0.toNat % 8 * 262144 + x1.toNat % 64 * 4096 + x2.toNat % 64 * 64 + x3.toNat % 64 ≤ 57343) ∧ x0.toNat % 8 * 262144 + x1.toNat % 64 * 4096 + x2.toNat % 64 * 64 + x3.toNat % 64 ≤ 1114111
        · first | (exfalso; omega) | (go_ret2; refine ⟨?_, Below.refl _ _⟩; rw [HO.out hq]; simp only [HV.out]; rfl)
        · first | (exfalso; omega) | (go_ret2; refine ⟨?_, Below.refl _ _⟩; rw [HB.out hq]; rfl))
    · have l : (s.size : Int) < (i : Int) + 4 := by omega
      have hv : Hid (runeAt s i = (0, 0)) := HR.out.trans (runeN_lack4 k4 (by omega))
      clear kl k4
      go_wp2
      go_ret2
      refine ⟨?_, Below.refl _ _⟩
      rw [hv.out]
      rfl
  have t2 : ((x0.toNat : Int) / 32 == 6) = false := by rw [beq_eq_false_iff_ne]; omega
  have t3 : ((x0.toNat : Int) / 16 == 14) = false := by rw [beq_eq_false_iff_ne]; omega
  have t4 : ((x0.toNat : Int) / 8 == 30) = false := by rw [beq_eq_false_iff_ne]; omega
  have hv : Hid (runeAt s i = (0, 0)) := HR.out.trans (runeN_none k1 k2 k3 k4)
  clear k1 k2 k3 k4
  go_wp2
  go_ret2
  refine ⟨?_, Below.refl _ _⟩
  rw [hv.out]
  rfl
end Go.Proofs.YtidcbcljeofooaaGreatDoor
