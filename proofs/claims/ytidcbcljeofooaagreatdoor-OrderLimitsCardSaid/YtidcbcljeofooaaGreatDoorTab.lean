/- The tables of unicode/utf8: DecodeRuneInString, as the walks take it. -/
import Derived.Test.YtidcbcljeofooaaGreatDoorWrW
import Derived.Test.YtidcbcljeofooaaGreatDoorRunF
import Derived.Lib.RuneCountTail
namespace Go.Proofs.YtidcbcljeofooaaGreatDoor
open Go.RowKit
theorem tabs_below {w w' : World} {B : Nat} (h : Lib.Utf8Tabs 0 1 w) (hB : 2 ≤ B) (hb : Below B w w') : Lib.Utf8Tabs 0 1 w' :=
  ⟨fun c hc => by rw [hb.cell (show 0 < B by omega)]; exact h.1 c hc, fun i hi => by rw [hb.cell (show 1 < B by omega), hb.cell (show 1 < B by omega)]; exact h.2 i hi⟩
theorem tabs_size {w : World} (h : Lib.Utf8Tabs 0 1 w) : 2 ≤ w.heap.size := by
  have := (h.2 0 (by omega)).1
  by_cases hn : 1 < w.heap.size
  · exact hn
  · have h0 : w.heap[1]? = none := Array.getElem?_eq_none (by omega)
    simp [World.cell?, h0] at this
/-- DecodeRuneInString, as the walks take it. -/
theorem hdec_of {w : World} (hT : Lib.Utf8Tabs 0 1 w) (s : ByteArray) : ∀ i W, Below w.heap.size w W → i < s.size → Calls Tryz.prog 75 #[.string (s.extract i s.size)] W fun e w' => e = .returned (.tuple #[.int .i32 (Utf8.decode s i).1, .int .i64 (Utf8.decode s i).2]) ∧ Below W.heap.size W w' := by
  intro i W hb hi
  refine (Tryz.utf8_DecodeRuneInString (s.extract i s.size) W (tabs_below hT (tabs_size hT) hb)).mono ?_
  rintro e w' ⟨rfl, hb'⟩
  have hz : ¬ (s.extract i s.size).size = 0 := by rw [Lib.tail_size]; omega
  have hd : Lib.decodeGo (s.extract i s.size) = Utf8.decode s i := by
    unfold Lib.decodeGo
    rw [if_neg hz, Lib.tail_decode, Nat.add_zero]
  rw [hd]
  exact ⟨rfl, hb'⟩
end Go.Proofs.YtidcbcljeofooaaGreatDoor
