/- Chapter 1: contracts of the reference's Rune. -/
import Derived.Test.YtidcbcljeofooaaGreatDoorRunA
import Derived.Deep.DeepCutAuto
import Derived.Deep.CutBlock
namespace Go.Proofs.YtidcbcljeofooaaGreatDoor
open Go.RowKit
open Go.Lib
/-- What the reference's Rune answers: no bytes where none begins. -/
def runeAt (s : ByteArray) (i : Nat) : Nat × Nat := if Utf8.decode s i = (65533, 1) then (0, 0) else Utf8.decode s i
theorem get_at (s : ByteArray) (i : Nat) (h : i < s.size) : s.get! i = s[i]'h := getElem!_pos s.data i h
def runeN (n b0 b1 b2 b3 : Nat) : Nat × Nat := if decodeN n b0 b1 b2 b3 = (65533, 1) then (0, 0) else decodeN n b0 b1 b2 b3
theorem runeAt_eq (s : ByteArray) (i : Nat) : runeAt s i = runeN (s.size - i) (s.get! i).toNat (s.get! (i + 1)).toNat (s.get! (i + 2)).toNat (s.get! (i + 3)).toNat := by
  unfold runeAt runeN; rw [decode_at]
theorem runeN_one {n b0 b1 b2 b3 : Nat} (h : b0 < 128) : runeN n b0 b1 b2 b3 = (b0, 1) := by
  have e : decodeN n b0 b1 b2 b3 = (b0, 1) := by unfold decodeN; rw [if_pos h]
  unfold runeN; rw [e, if_neg (by simp; omega)]
theorem runeN_zero {n b0 b1 b2 b3 : Nat} (h : decodeN n b0 b1 b2 b3 = (65533, 1)) : runeN n b0 b1 b2 b3 = (0, 0) := by
  unfold runeN; rw [if_pos h]
theorem runeN_none {n b0 b1 b2 b3 : Nat} (h : ¬ b0 < 128) (h2 : b0 / 32 ≠ 6) (h3 : b0 / 16 ≠ 14) (h4 : b0 / 8 ≠ 30) : runeN n b0 b1 b2 b3 = (0, 0) := by
  apply runeN_zero; unfold decodeN; rw [if_neg h, if_neg (by omega), if_neg (by omega), if_neg (by omega)]
theorem runeN_lack2 {n b0 b1 b2 b3 : Nat} (hc : b0 / 32 = 6) (h : ¬ (1 < n ∧ b1 / 64 = 2)) : runeN n b0 b1 b2 b3 = (0, 0) := by
  apply runeN_zero; unfold decodeN; rw [if_neg (by omega)]; repeat rw [if_neg (by omega)]
theorem runeN_bad2 {n b0 b1 b2 b3 : Nat} (hc : b0 / 32 = 6) (h : (1 < n ∧ b1 / 64 = 2)) (hr : b0 % 32 * 64 + b1 % 64 < 128) : runeN n b0 b1 b2 b3 = (0, 0) := by
  apply runeN_zero; unfold decodeN; rw [if_neg (by omega), if_pos (by omega), if_neg (by omega)]
theorem runeN_ok2 {n b0 b1 b2 b3 : Nat} (hc : b0 / 32 = 6) (h : (1 < n ∧ b1 / 64 = 2)) (hr : 128 ≤ b0 % 32 * 64 + b1 % 64) : runeN n b0 b1 b2 b3 = (b0 % 32 * 64 + b1 % 64, 2) := by
  have e : decodeN n b0 b1 b2 b3 = (b0 % 32 * 64 + b1 % 64, 2) := by unfold decodeN; rw [if_neg (by omega), if_pos (by omega), if_pos (by omega)]
  unfold runeN; rw [e, if_neg (by simp)]
theorem runeN_lack3 {n b0 b1 b2 b3 : Nat} (hc : b0 / 16 = 14) (h : ¬ (1 < n ∧ b1 / 64 = 2) ∨ ¬ (2 < n ∧ b2 / 64 = 2)) : runeN n b0 b1 b2 b3 = (0, 0) := by
  apply runeN_zero; unfold decodeN; rw [if_neg (by omega)]; repeat rw [if_neg (by omega)]
theorem runeN_bad3 {n b0 b1 b2 b3 : Nat} (hc : b0 / 16 = 14) (h : (1 < n ∧ b1 / 64 = 2) ∧ (2 < n ∧ b2 / 64 = 2)) (hr : b0 % 16 * 4096 + b1 % 64 * 64 + b2 % 64 < 2048 ∨ (55296 ≤ b0 % 16 * 4096 + b1 % 64 * 64 + b2 % 64 ∧ b0 % 16 * 4096 + b1 % 64 * 64 + b2 % 64 ≤ 57343) ∨ 1114111 < b0 % 16 * 4096 + b1 % 64 * 64 + b2 % 64) : runeN n b0 b1 b2 b3 = (0, 0) := by
  apply runeN_zero; unfold decodeN; rw [if_neg (by omega), if_neg (by omega), if_pos (by omega), if_neg (by omega)]
theorem runeN_ok3 {n b0 b1 b2 b3 : Nat} (hc : b0 / 16 = 14) (h : (1 < n ∧ b1 / 64 = 2) ∧ (2 < n ∧ b2 / 64 = 2)) (hr : 2048 ≤ b0 % 16 * 4096 + b1 % 64 * 64 + b2 % 64 ∧ ¬ (55296 ≤ b0 % 16 * 4096 + b1 % 64 * 64 + b2 % 64 ∧ b0 % 16 * 4096 + b1 % 64 * 64 + b2 % 64 ≤ 57343) ∧ b0 % 16 * 4096 + b1 % 64 * 64 + b2 % 64 ≤ 1114111) : runeN n b0 b1 b2 b3 = (b0 % 16 * 4096 + b1 % 64 * 64 + b2 % 64, 3) := by
  have e : decodeN n b0 b1 b2 b3 = (b0 % 16 * 4096 + b1 % 64 * 64 + b2 % 64, 3) := by unfold decodeN; rw [if_neg (by omega), if_neg (by omega), if_pos (by omega), if_pos (by omega)]
  unfold runeN; rw [e, if_neg (by simp)]
theorem runeN_lack4 {n b0 b1 b2 b3 : Nat} (hc : b0 / 8 = 30) (h : ¬ (1 < n ∧ b1 / 64 = 2) ∨ ¬ (2 < n ∧ b2 / 64 = 2) ∨ ¬ (3 < n ∧ b3 / 64 = 2)) : runeN n b0 b1 b2 b3 = (0, 0) := by
  apply runeN_zero; unfold decodeN; rw [if_neg (by omega)]; repeat rw [if_neg (by omega)]
theorem runeN_bad4 {n b0 b1 b2 b3 : Nat} (hc : b0 / 8 = 30) (h : (1 < n ∧ b1 / 64 = 2) ∧ (2 < n ∧ b2 / 64 = 2) ∧ (3 < n ∧ b3 / 64 = 2)) (hr : b0 % 8 * 262144 + b1 % 64 * 4096 + b2 % 64 * 64 + b3 % 64 < 65536 ∨ (55296 ≤ b0 % 8 * 262144 + b1 % 64 * 4096 + b2 % 64 * 64 + b3 % 64 ∧ b0 % 8 * 262144 + b1 % 64 * 4096 + b2 % 64 * 64 + b3 % 64 ≤ 57343) ∨ 1114111 < b0 % 8 * 262144 + b1 % 64 * 4096 + b2 % 64 * 64 + b3 % 64) : runeN n b0 b1 b2 b3 = (0, 0) := by
  apply runeN_zero; unfold decodeN; rw [if_neg (by omega), if_neg (by omega), if_neg (by omega), if_pos (by omega), if_neg (by omega)]
theorem runeN_ok4 {n b0 b1 b2 b3 : Nat} (hc : b0 / 8 = 30) (h : (1 < n ∧ b1 / 64 = 2) ∧ (2 < n ∧ b2 / 64 = 2) ∧ (3 < n ∧ b3 / 64 = 2)) (hr : 65536 ≤ b0 % 8 * 262144 + b1 % 64 * 4096 + b2 % 64 * 64 + b3 % 64 ∧ ¬ (55296 ≤ b0 % 8 * 262144 + b1 % 64 * 4096 + b2 % 64 * 64 + b3 % 64 ∧ b0 % 8 * 262144 + b1 % 64 * 4096 + b2 % 64 * 64 + b3 % 64 ≤ 57343) ∧ b0 % 8 * 262144 + b1 % 64 * 4096 + b2 % 64 * 64 + b3 % 64 ≤ 1114111) : runeN n b0 b1 b2 b3 = (b0 % 8 * 262144 + b1 % 64 * 4096 + b2 % 64 * 64 + b3 % 64, 4) := by
  have e : decodeN n b0 b1 b2 b3 = (b0 % 8 * 262144 + b1 % 64 * 4096 + b2 % 64 * 64 + b3 % 64, 4) := by unfold decodeN; rw [if_neg (by omega), if_neg (by omega), if_neg (by omega), if_pos (by omega), if_pos (by omega)]
  unfold runeN; rw [e, if_neg (by simp)]
end Go.Proofs.YtidcbcljeofooaaGreatDoor
