/- What Go calls equal of two vectors. -/
import Derived.Test.YtidcbcljeofooaaGreatDoorProg
import Derived.Test.YtidcbcljeofooaaGreatDoorCls
namespace Go.Proofs.YtidcbcljeofooaaGreatDoor
open Go.RowKit
theorem eqInt (d : Nat) (a b : Int) (w : World) : (Op.equalIn (d + 1) 2 (.int .i64 a) (.int .i64 b)).run Tryz.prog w = .ok (a == b) w := by
  rw [Op.equalIn]
  simp only [Sem.run_bind, run_underlying Tryz.underlying2, Result.andThen_ok]
  simp
theorem sizeI (w : World) : (sizeOf 2).run Tryz.prog w = .ok 1 w := by kernel_rfl
theorem aggI (w : World) : (isAgg 2).run Tryz.prog w = .ok false w := by kernel_rfl
theorem partI (cs : Array Value) (o : Nat) (w : World) : (part 2 cs o).run Tryz.prog w = (match cs[o]? with | some v => (pure v : Sem Value) | none => stuck "part: no such cell").run Tryz.prog w := by
  simp only [part, Sem.run_bind, aggI, Result.andThen_ok]
  rfl
theorem eqV' (d : Nat) (a b c d' a' b' c' e' : Int) (w : World) : (Op.equalIn (d + 1 + 1) 24 (.agg #[.int .i64 a, .int .i64 b, .int .i64 c, .int .i64 d']) (.agg #[.int .i64 a', .int .i64 b', .int .i64 c', .int .i64 e'])).run Tryz.prog w = .ok (a == a' && (b == b' && (c == c' && d' == e'))) w := by
  rw [Op.equalIn]
  simp only [Sem.run_bind, run_underlying Tryz.underlying24, Result.andThen_ok, sizeI, Std.Legacy.Range.forIn_eq_forIn_range']
  simp only [Std.Legacy.Range.size, List.range', Nat.sub_zero, Nat.add_sub_cancel, Nat.div_one, List.forIn_cons, List.forIn_nil, Sem.run_bind]
  by_cases h0 : a = a'
  · by_cases h1 : b = b'
    · by_cases h2 : c = c'
      · by_cases h3 : d' = e' <;> simp [partI, eqInt, Sem.run_bind, h0, h1, h2, h3]
      · simp [partI, eqInt, Sem.run_bind, h0, h1, h2]
    · simp [partI, eqInt, Sem.run_bind, h0, h1]
  · simp [partI, eqInt, h0]
@[go_sem] theorem eqV (a b c d' a' b' c' e' : Int) (w : World) : (Op.equalIn 10000 24 (.agg #[.int .i64 a, .int .i64 b, .int .i64 c, .int .i64 d']) (.agg #[.int .i64 a', .int .i64 b', .int .i64 c', .int .i64 e'])).run Tryz.prog w = .ok (a == a' && (b == b' && (c == c' && d' == e'))) w :=
  eqV' 9998 a b c d' a' b' c' e' w
end Go.Proofs.YtidcbcljeofooaaGreatDoor
