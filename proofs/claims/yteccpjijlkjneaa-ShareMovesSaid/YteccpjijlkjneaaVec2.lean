/- Contracts of chapter 3's sums: Sum, Add, Sub of the program. Sum: of whatever slice of vectors of int64s. -/
import Derived.Test.YteccpjijlkjneaaVec1
namespace Go.Proofs.Yteccpjijlkjneaa
open Go.RowKit
/-- The slice's cells hold the list of vectors, four cells each. -/
def HoldsV (w : World) (b off : Nat) (l : List V) : Prop :=
  ∀ j, (h : j < l.length) → w.cell? ⟨b, off + j * 4, none⟩ = some (.int .i64 l[j].1) ∧ w.cell? ⟨b, off + j * 4 + 1, none⟩ = some (.int .i64 l[j].2.1) ∧
    w.cell? ⟨b, off + j * 4 + 2, none⟩ = some (.int .i64 l[j].2.2.1) ∧ w.cell? ⟨b, off + j * 4 + 3, none⟩ = some (.int .i64 l[j].2.2.2)
theorem sumV_zero (x0 x1 x2 x3 s0 s1 s2 s3 : Int) (l : List V) (h : ¬ (okV (addV (s0, s1, s2, s3) (x0, x1, x2, x3)) = true)) {t : V} {r : Option V} (hd : r = if okV (addV (s0, s1, s2, s3) (x0, x1, x2, x3)) then sumGo t l else none) : r = none := by
  rw [hd, if_neg h]
theorem infoV : (Try.prog.info? 23).map (·.size) = some 4 := by kernel_rfl
end Go.Proofs.Yteccpjijlkjneaa
