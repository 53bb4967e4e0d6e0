/- Contracts of the reference's numbers of 256 bits: up, plus, Of, Compare. Asked: that Of's number is a word. -/
import Derived.Test.YtbkopmgfkokmgaaProg
import Derived.Test.YtbkopmgfkokmgaaCls
import Derived.Test.YtbkopmgfkokmgaaBig6
import Derived.Deep.LoopGhost
import Derived.Test.YtbkopmgfkokmgaaRat
import Derived.BigRegion
import Derived.Deep.RegionHeld3
namespace Go.Proofs.Ytbkopmgfkokmgaa
open Go.RowKit
attribute [local go_sem ↓] zeroBig
/-- What a number is as a word: nought and false where it is none. -/
def wordR (a : Nat) : Ending := .returned (.tuple #[.int .u64 (if (a : Int) ≤ 18446744073709551615 then (a : Int) else 0), .bool (decide ((a : Int) ≤ 18446744073709551615))])
theorem word_no {a : Nat} (h : ¬ ((a : Int) ≤ 18446744073709551615)) : Ending.returned (.tuple #[.int .u64 0, .bool false]) = wordR a := by
  unfold wordR; rw [if_neg h, decide_eq_false h]
theorem word_yes {a : Nat} {m : Int} (h : (a : Int) ≤ 18446744073709551615) (hm : m = a) : Ending.returned (.tuple #[.int .u64 m, .bool true]) = wordR a := by
  unfold wordR; rw [if_pos h, decide_eq_true h, hm]
theorem word_spec (a j : Nat) (h : a.testBit j = true) : 2 ^ j ≤ a := Nat.ge_two_pow_of_testBit h
theorem word_small {a : Nat} (h : a / 2 ^ 64 = 0) : (a : Int) ≤ 18446744073709551615 := by
  have h3 : (2 : Nat) ^ 64 = 18446744073709551616 := by decide
  rw [h3] at h; omega
theorem word_great {a j : Nat} (h : a.testBit j = true) (hj : 64 ≤ j) : ¬ ((a : Int) ≤ 18446744073709551615) := by
  have h1 := word_spec a j h
  have h2 : 2 ^ 64 ≤ 2 ^ j := Nat.pow_le_pow_right (by omega) hj
  have h3 : (2 : Nat) ^ 64 = 18446744073709551616 := by decide
  omega
theorem word_step {a j : Nat} {m : Int} {c : Bool} (hm : ((a / 2 ^ (j + 1) : Nat) : Int) = m) (hc : c = a.testBit j) : ((a / 2 ^ j : Nat) : Int) = 2 * m + c.toNat := by
  rw [shift_bit a j, ← hm, ← hc]; omega
theorem word_bd {a j : Nat} {m : Int} (hm : ((a / 2 ^ (j + 1) : Nat) : Int) = m) (h : (a : Int) ≤ 18446744073709551615) : 0 ≤ m ∧ 2 * m + 1 ≤ 18446744073709551615 := by
  have h1 := shift_bit a j
  have h2 : a / 2 ^ j ≤ a := Nat.div_le_self _ _
  omega
set_option maxRecDepth 100000 in
set_option maxHeartbeats 4000000 in
theorem word_any (a : Nat) (w : World) (ha : Hid (Big a)) :
    Calls Try.prog 41 #[.agg (bigA a)] w fun e w' => e = wordR a ∧ Below w.heap.size w w' := by
  have h0 : ((a / 2 ^ 256 : Nat) : Int) = 0 := by rw [Nat.div_eq_of_lt ha.out]; rfl
  have H0 := hid h0
  clear h0 ha
  go_enter Try.func41, Try.ntmps41
  go_wp2_with fail
  obtain ⟨wo, hwo⟩ : ∃ x : World, x = (w.alloc (.cells (bigA a) 51)) := ⟨_, rfl⟩
  rw [← hwo]
  have X0 := hid (show wo.heap[w.heap.size]? = some (.cells (bigA (a)) 51 (0, 0)) from by rw [hwo]; exact (by (repeat (first | (with_reducible assumption) | (with_reducible exact alloc_at _ _) | ((with_reducible apply alloc_at'); (simp; done)) | (with_reducible apply alloc_at_lt) | (with_reducible apply heap_drew_at) | (with_reducible apply heap_drewN_at) | (with_reducible apply heap_setCell_same) | ((with_reducible apply heap_set_ne); (first | omega | (dsimp only; omega) | (simp; done) | (simp; omega))) | (with_reducible apply setRow_at) | ((with_reducible apply setRow_ne); (first | omega | (dsimp only; omega) | (simp; done) | (simp; omega)))))))
  have hB : Below w.heap.size w wo := by rw [hwo]; exact (by repeat (first | with_reducible assumption | with_reducible exact Below.refl _ _ | with_reducible refine Below.drew ?_ | with_reducible refine below_drewN ?_ _ | with_reducible refine below_alloc ?_ _ | with_reducible refine Below.alloc ?_ (by first | omega | (simp; done) | (simp; omega)) _ | with_reducible refine Below.setCell ?_ (by first | omega | (simp; done) | (simp; omega)) _ | with_reducible refine below_setRow ?_ (by first | omega | (simp; done) | (simp; omega)) _))
  clear hwo
  go_loop [4, 5] (fun n i => ∃ (k : Nat) (m : Int), k ≤ 256 ∧ i = .int .i64 ((k : Int) - 1) ∧ n = .int .u64 m ∧ Hid (((a / 2 ^ k : Nat) : Int) = m) ∧ Hid (64 ≤ k → m = 0) ∧ Hid (k < 64 → a / 2 ^ 64 = 0)) (fun _ i => (intOf i + 1).toNat)
  case atStart => exact ⟨256, 0, by omega, by go_num, rfl, H0, hid (fun _ => rfl), hid (fun h => by omega)⟩
  case round =>
    clear H0
    obtain ⟨k, m, hk, rfl, rfl, hm, hz, hlo⟩ := hrel
    by_cases hlt : 0 < k
    · obtain ⟨j, rfl⟩ : ∃ j, k = j + 1 := ⟨k - 1, by omega⟩
      rw [show ((j + 1 : Nat) : Int) - 1 = (j : Int) by omega]
      obtain ⟨c, hc, cx⟩ : ∃ c, Hid (c = a.testBit j) ∧ wo.cell? ⟨w.heap.size, j, none⟩ = some (.bool c) := ⟨_, rfl, (blk_cell X0.out j).trans (bigA_get _ _ (by omega))⟩
      have hsh := word_step hm.out hc.out
      have HS := hid hsh
      clear hsh
      by_cases h64 : 64 ≤ j
      · have hm0 : m = 0 := hz.out (by omega)
        subst hm0
        clear hz
        cases c
        · go_wp2
          go_round
          case rel => exact ⟨j, 0, by omega, by go_num, rfl, hid (by rw [HS.out]; rfl), hid (fun _ => rfl), hid (fun h => by omega)⟩
          case measure => first | (simp [intOf]; done) | (simp [intOf]; omega)
        · have hbig := word_no (word_great hc.out.symm h64)
          have HB := hid hbig
          clear hbig
          go_wp2
          go_ret2
          exact ⟨HB.out, (by repeat (first | with_reducible assumption | with_reducible exact Below.refl _ _ | with_reducible refine Below.drew ?_ | with_reducible refine below_drewN ?_ _ | with_reducible refine below_alloc ?_ _ | with_reducible refine Below.alloc ?_ (by first | omega | (simp; done) | (simp; omega)) _ | with_reducible refine Below.setCell ?_ (by first | omega | (simp; done) | (simp; omega)) _ | with_reducible refine below_setRow ?_ (by first | omega | (simp; done) | (simp; omega)) _))⟩
      · have hl64 : a / 2 ^ 64 = 0 := by
          by_cases h : j + 1 < 64
          · exact hlo.out h
          · have e : j + 1 = 64 := by omega
            have h1 := hm.out
            rw [e] at h1
            have h2 := hz.out (by omega)
            omega
        obtain ⟨b0, b1⟩ := word_bd hm.out (word_small hl64)
        have HL := hid hl64
        clear hl64 hz
        cases c
        · go_wp2
          go_round
          case rel => exact ⟨j, 2 * m, by omega, by go_num, by go_num, hid (by rw [HS.out]; simp), hid (fun h => by omega), hid (fun _ => HL.out)⟩
          case measure => first | (simp [intOf]; done) | (simp [intOf]; omega)
        · go_wp2
          go_round
          case rel => exact ⟨j, 2 * m + 1, by omega, by go_num, by go_num, hid (by rw [HS.out]; simp), hid (fun h => by omega), hid (fun _ => HL.out)⟩
          case measure => first | (simp [intOf]; done) | (simp [intOf]; omega)
    · obtain rfl : k = 0 := by omega
      have hfin := word_yes (m := m) (word_small (hlo.out (by omega))) (by have := hm.out; rw [Nat.pow_zero, Nat.div_one] at this; exact this.symm)
      have HB := hid hfin
      clear hfin hz
      rw [show ((0 : Nat) : Int) - 1 = -1 by omega]
      go_wp2
      go_ret2
      exact ⟨HB.out, (by repeat (first | with_reducible assumption | with_reducible exact Below.refl _ _ | with_reducible refine Below.drew ?_ | with_reducible refine below_drewN ?_ _ | with_reducible refine below_alloc ?_ _ | with_reducible refine Below.alloc ?_ (by first | omega | (simp; done) | (simp; omega)) _ | with_reducible refine Below.setCell ?_ (by first | omega | (simp; done) | (simp; omega)) _ | with_reducible refine below_setRow ?_ (by first | omega | (simp; done) | (simp; omega)) _))⟩
end Go.Proofs.Ytbkopmgfkokmgaa
