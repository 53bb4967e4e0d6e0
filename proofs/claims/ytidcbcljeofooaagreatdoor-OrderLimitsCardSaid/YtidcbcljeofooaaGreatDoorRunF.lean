/- Chapter 1: the contract of the reference's Name. -/
import Derived.Test.YtidcbcljeofooaaGreatDoorRunE
namespace Go.Proofs.YtidcbcljeofooaaGreatDoor
open Go.RowKit
theorem nameB_bad {s : ByteArray} (h : (chkA s 0 0).2.2 ≠ 0) : nameB s = false := by
  unfold nameB
  cases e : nmsA s 0 0 with
  | none => rfl
  | some m => rw [nms_chk s s.size 0 0 m (by omega) e] at h; exact absurd rfl h
theorem nameB_count {s : ByteArray} (h : ¬ (1 ≤ (chkA s 0 0).1 ∧ (chkA s 0 0).1 ≤ 16)) : nameB s = false := by
  unfold nameB
  cases e : nmsA s 0 0 with
  | none => rfl
  | some m =>
    rw [nms_chk s s.size 0 0 m (by omega) e] at h
    simp only [Bool.and_eq_false_iff, decide_eq_false_iff_not]
    simp only at h
    omega
theorem nameB_end {s : ByteArray} {p n : Nat} (hp : ¬ p < s.size) (h : nmsA s p n = nmsA s 0 0) (h1 : 1 ≤ (chkA s 0 0).1) (h2 : (chkA s 0 0).1 ≤ 16) : nameB s = true := by
  rw [nmsA_eq, if_neg hp] at h
  rw [nms_chk s s.size 0 0 n (by omega) h.symm] at h1 h2
  unfold nameB
  rw [← h]
  simp only at h1 h2
  simp [h1, h2]
theorem nameB_out {s : ByteArray} {p n : Nat} (hp : p < s.size) (h : nmsA s p n = nmsA s 0 0) (hn : inName (Utf8.decode s p).1 = false) : nameB s = false := by
  rw [nmsA_eq, if_pos hp, hn, if_neg (by simp)] at h
  unfold nameB
  rw [← h]
theorem nms_on {s : ByteArray} {p n : Nat} (hp : p < s.size) (h : nmsA s p n = nmsA s 0 0) (hn : inName (Utf8.decode s p).1 = true) : nmsA s (p + (Utf8.decode s p).2) (n + 1) = nmsA s 0 0 := by
  rw [← h, nmsA_eq s p n, if_pos hp, if_pos hn]
set_option maxHeartbeats 4000000 in
set_option maxRecDepth 20000 in
theorem rname_any (s : ByteArray) (w : World) (hs : s.size ≤ 281474976710656) :
    Calls Tryz.prog 45 #[.string s] w fun e w' => e = .returned (.bool (nameB s)) ∧ Below w.heap.size w w' := by
  have HS := hid hs
  have hsz : (s.size : Int) ≤ 281474976710656 := by omega
  clear hs
  go_enter Tryz.func45, Tryz.ntmps45
  go_wp2_with fail
  refine (rcheck_any s _ HS.out).mono ?_
  rintro e w1 ⟨rfl, hb1⟩
  obtain ⟨m, pl, er, hch⟩ : ∃ m pl er, chkA s 0 0 = (m, pl, er) := ⟨_, _, _, rfl⟩
  rw [hch]
  have HCH := hid hch
  clear hch
  have HB1 := hid hb1
  clear hb1
  by_cases her : er = 0
  case neg =>
    have hne : (er != 0) = true := by rw [bne_iff_ne]; exact her
    have HR : Hid (nameB s = false) := nameB_bad (by rw [HCH.out]; exact her)
    clear her
    go_wp2
    go_ret
    exact ⟨by rw [HR.out]; rfl, HB1.out⟩
  subst her
  by_cases hm1 : 1 ≤ m
  case neg =>
    have HR : Hid (nameB s = false) := nameB_count (by rw [HCH.out]; exact fun h => hm1 h.1)
    have q : (m : Int) < 1 := by omega
    clear hm1
    go_wp2
    go_ret
    exact ⟨by rw [HR.out]; rfl, HB1.out⟩
  by_cases hm2 : m ≤ 16
  case neg =>
    have HR : Hid (nameB s = false) := nameB_count (by rw [HCH.out]; exact fun h => hm2 h.2)
    have q : ¬ (m : Int) < 1 := by omega
    have q2 : 16 < (m : Int) := by omega
    clear hm1 hm2
    go_wp2
    go_ret
    exact ⟨by rw [HR.out]; rfl, HB1.out⟩
  have HM : Hid (1 ≤ (chkA s 0 0).1 ∧ (chkA s 0 0).1 ≤ 16) := by unfold Hid; rw [HCH.out]; exact ⟨hm1, hm2⟩
  have q : ¬ (m : Int) < 1 := by omega
  have q2 : ¬ 16 < (m : Int) := by omega
  clear hm1 hm2
  go_wp2
  go_loopw [6] (fun i wr => ∃ p n : Nat, i = .int .i64 p ∧ p ≤ s.size ∧ Hid (Below w.heap.size w wr) ∧ Hid (nmsA s p n = nmsA s 0 0)) (fun i _ => s.size - (intOf i).toNat)
  case atStart => exact ⟨0, 0, rfl, Nat.zero_le _, HB1.out, rfl⟩
  case round =>
    obtain ⟨p, n, rfl, hps, HB, HC⟩ := hrel
    clear q q2
    by_cases hp : p < s.size
    · have hpi : (p : Int) < (s.size : Int) := by omega
      have HP : Hid (p < s.size) := hp
      clear hp hps
      go_wp2_with fail
      refine (rune_any s p _ HS.out HP.out).mono ?_
      rintro e w2 ⟨rfl, hb2⟩
      have HB2 : Hid (Below w.heap.size w w2) := HB.out.trans (hb2.mono HB.out.size)
      clear hb2
      by_cases hd : Utf8.decode s p = (65533, 1)
      · have hr : runeAt s p = (0, 0) := by unfold runeAt; rw [if_pos hd]
        have HR : Hid (nameB s = false) := nameB_out HP.out HC.out (by rw [hd]; rfl)
        rw [hr]
        clear hd hr
        go_wp2
        go_ret
        exact ⟨by rw [HR.out]; rfl, HB2.out⟩
      · obtain ⟨c, k, hck⟩ : ∃ c k, Utf8.decode s p = (c, k) := ⟨_, _, rfl⟩
        have hr : runeAt s p = (c, k) := by unfold runeAt; rw [if_neg hd, hck]
        have h1 := dec_pos HP.out
        have h2 := dec_le HP.out
        have hmx := dec_max s p
        rw [hck] at hmx h1 h2
        simp only at hmx h1 h2
        have HK := hid hck
        have HPK : Hid (1 ≤ k ∧ p + k ≤ s.size) := ⟨h1, h2⟩
        have iwk : IntKind.i64.wrap ((p : Int) + (k : Int)) = (p : Int) + (k : Int) := IntWalk.i64_in _ (by omega)
        rw [hr]
        clear hd hr hck h1 h2
        cases hc : inName c with
        | true =>
          have HR : Hid (nmsA s (p + k) (n + 1) = nmsA s 0 0) := by
            have := nms_on HP.out HC.out (by rw [HK.out]; exact hc)
            rw [HK.out] at this
            exact this
          have hcc := (inName_iff c).1 hc
          clear hc hmx
          rcases hcc with ⟨h1, h2⟩ | ⟨h1, h2⟩ | rfl | rfl | ⟨h1, h2⟩
          · have a0 : (97 : Int) ≤ (c : Int) := by omega
            have a1 : (c : Int) ≤ 122 := by omega
            clear h1 h2
            go_wp2
            go_roundw
            case rel => exact ⟨p + k, n + 1, by go_num, HPK.out.2, HB2.out, HR.out⟩
            case measure => have := HPK.out; have := HP.out; simp only [intOf]; omega
          · have a0 : ¬ (97 : Int) ≤ (c : Int) := by omega
            have a1 : (48 : Int) ≤ (c : Int) := by omega
            have a2 : (c : Int) ≤ 57 := by omega
            clear h1 h2
            go_wp2
            go_roundw
            case rel => exact ⟨p + k, n + 1, by go_num, HPK.out.2, HB2.out, HR.out⟩
            case measure => have := HPK.out; have := HP.out; simp only [intOf]; omega
          · go_wp2
            go_roundw
            case rel => exact ⟨p + k, n + 1, by go_num, HPK.out.2, HB2.out, HR.out⟩
            case measure => have := HPK.out; have := HP.out; simp only [intOf]; omega
          · go_wp2
            go_roundw
            case rel => exact ⟨p + k, n + 1, by go_num, HPK.out.2, HB2.out, HR.out⟩
            case measure => have := HPK.out; have := HP.out; simp only [intOf]; omega
          · have a0 : (97 : Int) ≤ (c : Int) := by omega
            have a1 : ¬ (c : Int) ≤ 122 := by omega
            have a2 : (48 : Int) ≤ (c : Int) := by omega
            have a3 : ¬ (c : Int) ≤ 57 := by omega
            have a4 : ((c : Int) == 45) = false := by rw [beq_eq_false_iff_ne]; omega
            have a5 : ((c : Int) == 95) = false := by rw [beq_eq_false_iff_ne]; omega
            have a6 : ¬ (c : Int) < 945 := by omega
            have a7 : ¬ 969 < (c : Int) := by omega
            clear h1 h2
            go_wp2
            go_roundw
            case rel => exact ⟨p + k, n + 1, by go_num, HPK.out.2, HB2.out, HR.out⟩
            case measure => have := HPK.out; have := HP.out; simp only [intOf]; omega
        | false =>
          have HR : Hid (nameB s = false) := nameB_out HP.out HC.out (by rw [HK.out]; exact hc)
          have hcc : ¬ ((97 ≤ c ∧ c ≤ 122) ∨ (48 ≤ c ∧ c ≤ 57) ∨ c = 45 ∨ c = 95 ∨ (945 ≤ c ∧ c ≤ 969)) := fun h => by rw [(inName_iff c).2 h] at hc; cases hc
          have b4 : ((c : Int) == 45) = false := by simp; omega
          have b5 : ((c : Int) == 95) = false := by simp; omega
          clear hc hmx
          have q : c < 45 ∨ (45 < c ∧ c < 48) ∨ (57 < c ∧ c < 97) ∨ (122 < c ∧ c < 945) ∨ 969 < c := by omega
          clear hcc
          rcases q with q | q | q | q | q
          · have a0 : ¬ (97 : Int) ≤ (c : Int) := by omega
            have a1 : ¬ (48 : Int) ≤ (c : Int) := by omega
            have a2 : (c : Int) < 945 := by omega
            clear q
            go_wp2
            go_ret
            exact ⟨by rw [HR.out]; rfl, HB2.out⟩
          · have a0 : ¬ (97 : Int) ≤ (c : Int) := by omega
            have a1 : ¬ (48 : Int) ≤ (c : Int) := by omega
            have a2 : (c : Int) < 945 := by omega
            clear q
            go_wp2
            go_ret
            exact ⟨by rw [HR.out]; rfl, HB2.out⟩
          · have a0 : ¬ (97 : Int) ≤ (c : Int) := by omega
            have a1 : (48 : Int) ≤ (c : Int) := by omega
            have a2 : ¬ (c : Int) ≤ 57 := by omega
            have a3 : (!decide ((c : Int) ≤ 57)) = true := by simp; omega
            have a4 : (c : Int) < 945 := by omega
            clear q
            go_wp2
            go_ret
            exact ⟨by rw [HR.out]; rfl, HB2.out⟩
          · have a0 : (97 : Int) ≤ (c : Int) := by omega
            have a1 : ¬ (c : Int) ≤ 122 := by omega
            have a2 : (!decide ((c : Int) ≤ 122)) = true := by simp; omega
            have a3 : (48 : Int) ≤ (c : Int) := by omega
            have a4 : ¬ (c : Int) ≤ 57 := by omega
            have a5 : (!decide ((c : Int) ≤ 57)) = true := by simp; omega
            have a6 : (c : Int) < 945 := by omega
            clear q
            go_wp2
            go_ret
            exact ⟨by rw [HR.out]; rfl, HB2.out⟩
          · have a0 : (97 : Int) ≤ (c : Int) := by omega
            have a1 : ¬ (c : Int) ≤ 122 := by omega
            have a2 : (!decide ((c : Int) ≤ 122)) = true := by simp; omega
            have a3 : (48 : Int) ≤ (c : Int) := by omega
            have a4 : ¬ (c : Int) ≤ 57 := by omega
            have a5 : (!decide ((c : Int) ≤ 57)) = true := by simp; omega
            have a6 : ¬ (c : Int) < 945 := by omega
            have a7 : 969 < (c : Int) := by omega
            clear q
            go_wp2
            go_ret
            exact ⟨by rw [HR.out]; rfl, HB2.out⟩
    · have hpi : ¬ (p : Int) < (s.size : Int) := by omega
      have HR : Hid (nameB s = true) := nameB_end hp HC.out HM.out.1 HM.out.2
      clear hp
      go_wp2
      go_ret
      exact ⟨by rw [HR.out]; rfl, HB.out⟩
end Go.Proofs.YtidcbcljeofooaaGreatDoor
