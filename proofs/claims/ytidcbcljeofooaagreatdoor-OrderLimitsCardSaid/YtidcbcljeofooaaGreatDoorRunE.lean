/- Chapter 1: contracts of the reference's Check and Name. -/
import Derived.Test.YtidcbcljeofooaaGreatDoorRunB
namespace Go.Proofs.YtidcbcljeofooaaGreatDoor
open Go.RowKit
set_option maxHeartbeats 1000000 in
theorem rcheck_any (s : ByteArray) (w : World) (hs : s.size ≤ 281474976710656) :
    Calls Tryz.prog 57 #[.string s] w fun e w' => e = .returned (.tuple #[.int .i64 (chkA s 0 0).1, .int .i64 (chkA s 0 0).2.1, .int .i64 (chkA s 0 0).2.2]) ∧ Below w.heap.size w w' := by
  have HS := hid hs
  have hsz : (s.size : Int) ≤ 281474976710656 := by omega
  clear hs
  go_enter Tryz.func57, Tryz.ntmps57
  go_wp2
  go_loopw [5, 6] (fun c i wr => ∃ p n : Nat, c = .int .i64 n ∧ i = .int .i64 p ∧ n ≤ p ∧ p ≤ s.size ∧ Hid (Below w.heap.size w wr) ∧ Hid (chkA s p n = chkA s 0 0)) (fun _ i _ => s.size - (intOf i).toNat)
  case atStart => exact ⟨0, 0, rfl, rfl, Nat.le_refl _, Nat.zero_le _, Below.refl _ _, rfl⟩
  case round =>
    obtain ⟨p, n, rfl, rfl, hnp, hps, HB, HC⟩ := hrel
    by_cases hp : p < s.size
    · have hpi : (p : Int) < (s.size : Int) := by omega
      have HP : Hid (p < s.size ∧ n ≤ p) := ⟨hp, hnp⟩
      have iw : IntKind.i64.wrap ((n : Int) + 1) = (n : Int) + 1 := IntWalk.i64_in _ (by omega)
      clear hp hps hnp
      go_wp2_with fail
      refine (rune_any s p _ HS.out HP.out.1).mono ?_
      rintro e w2 ⟨rfl, hb2⟩
      have HB2 : Hid (Below w.heap.size w w2) := HB.out.trans (hb2.mono HB.out.size)
      clear hb2
      by_cases hd : Utf8.decode s p = (65533, 1)
      · have hr : runeAt s p = (0, 0) := by unfold runeAt; rw [if_pos hd]
        have HR : Hid (chkA s 0 0 = (0, p, 12)) := by unfold Hid; rw [← HC.out]; exact chkA_bad HP.out.1 hd
        rw [hr]
        clear hd hr
        go_wp2
        go_ret3
        refine ⟨?_, HB2.out⟩
        rw [HR.out]
        rfl
      · obtain ⟨c, k, hck⟩ : ∃ c k, Utf8.decode s p = (c, k) := ⟨_, _, rfl⟩
        have hr : runeAt s p = (c, k) := by unfold runeAt; rw [if_neg hd, hck]
        have hmx := dec_max s p
        have h1 := dec_pos HP.out.1
        have h2 := dec_le HP.out.1
        rw [hck] at hmx h1 h2
        simp only at hmx h1 h2
        have HK := hid hck
        have HN : Hid (Utf8.decode s p ≠ (65533, 1)) := hd
        have HPK : Hid (1 ≤ k ∧ p + k ≤ s.size) := ⟨h1, h2⟩
        have hk0 : ((k : Int) == 0) = false := by rw [beq_eq_false_iff_ne]; omega
        have iwk : IntKind.i64.wrap ((p : Int) + (k : Int)) = (p : Int) + (k : Int) := IntWalk.i64_in _ (by omega)
        rw [hr]
        clear hd hr hck h1 h2
        by_cases hf : c < 32 ∨ c = 127
        · have HR : Hid (chkA s 0 0 = (0, p, 4)) := by unfold Hid; rw [← HC.out]; exact chkA_form HP.out.1 HN.out (by rw [HK.out]; exact hf)
          by_cases hf1 : c < 32
          · have hf1i : (c : Int) < 32 := by omega
            clear hf
            go_wp2
            go_ret3
            refine ⟨?_, HB2.out⟩
            rw [HR.out]
            rfl
          · obtain rfl : c = 127 := by omega
            clear hf
            go_wp2
            go_ret3
            refine ⟨?_, HB2.out⟩
            rw [HR.out]
            rfl
        · have hf1 : ¬ (c : Int) < 32 := by omega
          have hf2 : ((c : Int) == 127) = false := by rw [beq_eq_false_iff_ne]; omega
          have HR : Hid (chkA s (p + k) (n + 1) = chkA s 0 0) := by
            unfold Hid
            rw [← HC.out, chkA_step (n := n) HP.out.1 HN.out (by rw [HK.out]; exact hf), HK.out]
          clear hf
          go_wp2
          go_roundw
          case rel => exact ⟨p + k, n + 1, by go_num, by go_num, by have := HP.out.2; have := HPK.out.1; omega, HPK.out.2, HB2.out, HR.out⟩
          case measure => have := HPK.out; have := HP.out; simp only [intOf]; omega
    · have hpi : ¬ (p : Int) < (s.size : Int) := by omega
      have HR : Hid (chkA s 0 0 = (n, 0, 0)) := by unfold Hid; rw [← HC.out]; exact chkA_end hp
      clear hp
      go_wp2
      go_ret3
      refine ⟨?_, HB.out⟩
      rw [HR.out]
      rfl
end Go.Proofs.YtidcbcljeofooaaGreatDoor
