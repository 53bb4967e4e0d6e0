/- What Go calls equal of two nodes. -/
import Derived.Test.YtkplhobiciddoaaWk0
import Derived.Test.YtkplhobiciddoaaVecE
namespace Go.Proofs.Ytkplhobiciddoaa
open Go.RowKit Go.WideShapes
theorem stoodN : Try.prog.stoodInHeld 34 = false := by kernel_rfl
theorem eqStr (d : Nat) (a b : ByteArray) (w : World) : (Op.equalIn (d + 1) 9 (.string a) (.string b)).run Try.prog w = .ok (a == b) w := by
  rw [Op.equalIn]
  simp only [Sem.run_bind, run_underlying Try.underlying9, Result.andThen_ok]
  simp
theorem eqBool (d : Nat) (a b : Bool) (w : World) : (Op.equalIn (d + 1) 4 (.bool a) (.bool b)).run Try.prog w = .ok (a == b) w := by
  rw [Op.equalIn]
  simp only [Sem.run_bind, run_underlying Try.underlying4, Result.andThen_ok]
  simp
theorem aggS (w : World) : (isAgg 9).run Try.prog w = .ok false w := by kernel_rfl
theorem aggB (w : World) : (isAgg 4).run Try.prog w = .ok false w := by kernel_rfl
theorem aggVc (w : World) : (isAgg 25).run Try.prog w = .ok true w := by kernel_rfl
theorem sizeVc (w : World) : (sizeOf 25).run Try.prog w = .ok 4 w := by kernel_rfl
theorem partS (cs : Array Value) (o : Nat) (w : World) : (part 9 cs o).run Try.prog w = (match cs[o]? with | some v => (pure v : Sem Value) | none => stuck "part: no such cell").run Try.prog w := by
  simp only [part, Sem.run_bind, aggS, Result.andThen_ok]
  rfl
theorem partB (cs : Array Value) (o : Nat) (w : World) : (part 4 cs o).run Try.prog w = (match cs[o]? with | some v => (pure v : Sem Value) | none => stuck "part: no such cell").run Try.prog w := by
  simp only [part, Sem.run_bind, aggB, Result.andThen_ok]
  rfl
theorem partVc (cs : Array Value) (o : Nat) (w : World) : (part 25 cs o).run Try.prog w = .ok (.agg (cs.extract o (o + 4))) w := by
  simp [part, Sem.run_bind, Result.andThen_ok]
theorem bytes_beq (a b : ByteArray) : (a == b) = true ↔ a = b := by
  obtain ⟨a⟩ := a
  obtain ⟨b⟩ := b
  show (a == b) = true ↔ _
  simp
/-- Two nodes alike. -/
def eqNB (x y : Nd) : Bool := x.name == y.name && (x.epoch == y.epoch && ((x.cap.1 == y.cap.1 && (x.cap.2.1 == y.cap.2.1 && (x.cap.2.2.1 == y.cap.2.2.1 && x.cap.2.2.2 == y.cap.2.2.2))) && (x.seen == y.seen && x.live == y.live)))
theorem eqNB_iff (x y : Nd) : eqNB x y = true ↔ x = y := by
  obtain ⟨a, b, ⟨c0, c1, c2, c3⟩, d, e⟩ := x
  obtain ⟨a', b', ⟨c0', c1', c2', c3'⟩, d', e'⟩ := y
  simp only [eqNB, Bool.and_eq_true, bytes_beq, beq_iff_eq, Nd.mk.injEq, Prod.mk.injEq]
theorem eqN' (d : Nat) (x y : Nd) (w : World) : (Op.equalIn (d + 1 + 1 + 1) 34 (ndV x) (ndV y)).run Try.prog w = .ok (eqNB x y) w := by
  obtain ⟨a, b, ⟨c0, c1, c2, c3⟩, s, e⟩ := x
  obtain ⟨a', b', ⟨c0', c1', c2', c3'⟩, s', e'⟩ := y
  rw [Op.equalIn]
  simp only [ndV, cellsN, Sem.run_bind, run_underlying Try.underlying34, Result.andThen_ok, run_program, stoodN]
  cases h0 : a == a'
  · simp [partS, eqStr, Sem.run_bind, h0, eqNB]
  · cases h1 : b == b'
    · simp [partS, eqStr, partI, eqInt, Sem.run_bind, h0, h1, eqNB]
    · cases h2 : (c0 == c0' && (c1 == c1' && (c2 == c2' && c3 == c3')))
      · simp [partS, eqStr, partI, eqInt, partVc, eqV', Sem.run_bind, h0, h1, h2, eqNB]
      · cases h3 : s == s'
        · simp [partS, eqStr, partI, eqInt, partVc, eqV', Sem.run_bind, h0, h1, h2, h3, eqNB]
        · simp [partS, eqStr, partI, eqInt, partVc, eqV', partB, eqBool, Sem.run_bind, h0, h1, h2, h3, eqNB]
          cases e <;> cases e' <;> rfl
theorem eqN (x y : Nd) (w : World) : (Op.equalIn 10000 34 (ndV x) (ndV y)).run Try.prog w = .ok (eqNB x y) w := eqN' 9997 x y w
end Go.Proofs.Ytkplhobiciddoaa
