/- The names of chapter 13's laws: string(rune('a'+i)). -/
import Derived.Test.YtobgolceggeogaaProg
import Derived.Test.YtobgolceggeogaaCls
namespace Go.Proofs.Ytobgolceggeogaa
open Go.RowKit
def nmI (i : Nat) : ByteArray := ⟨#[UInt8.ofNat (97 + i)]⟩
theorem conv_nm (i : Nat) (hi : i < 20) (w : World) : (convert 21 9 (.int .i32 (97 + (i : Int)))).run Try.prog w = .ok (.string (nmI i)) w := by
  have h : i = 0 ∨ i = 1 ∨ i = 2 ∨ i = 3 ∨ i = 4 ∨ i = 5 ∨ i = 6 ∨ i = 7 ∨ i = 8 ∨ i = 9 ∨ i = 10 ∨ i = 11 ∨ i = 12 ∨ i = 13 ∨ i = 14 ∨ i = 15 ∨ i = 16 ∨ i = 17 ∨ i = 18 ∨ i = 19 := by omega
  clear hi
  rcases h with rfl | rfl | rfl | rfl | rfl | rfl | rfl | rfl | rfl | rfl | rfl | rfl | rfl | rfl | rfl | rfl | rfl | rfl | rfl | rfl
  all_goals (show Sem.run _ _ _ = Result.ok _ _; kernel_rfl)
theorem nmI_size (i : Nat) : (nmI i).size ≤ maxLen := by unfold maxLen; exact (show (1 : Nat) ≤ 2 ^ 63 - 1 by decide)
theorem nmI_inj {i j : Nat} (hi : i < 20) (hj : j < 20) (h : (nmI i).data.toList = (nmI j).data.toList) : i = j := by
  have h1 : UInt8.ofNat (97 + i) = UInt8.ofNat (97 + j) := by simpa [nmI] using h
  have h2 := congrArg UInt8.toNat h1
  simp at h2
  omega
end Go.Proofs.Ytobgolceggeogaa
