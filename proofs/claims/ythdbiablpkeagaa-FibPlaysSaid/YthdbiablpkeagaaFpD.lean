/- FibPlays: one step: what its walks share. -/
import Derived.Test.YthdbiablpkeagaaFpC
namespace Go.Proofs.Ythdbiablpkeagaa
open Go.RowKit
variable {B N : Nat} {A : Nat → Nat} {Q : Nat → Prop} {w w' : World}
abbrev lA (A : Nat → Nat) (a b c : Nat) : Value := .agg #[pA A a, pA A b, pA A c]
abbrev oA (kd hh nn k0 k1 k2 : Int) : Value := .agg #[.int .i64 kd, .int .i64 hh, .int .i64 nn, .int .u64 k0, .int .u64 k1, .int .i64 k2]
/-- A number's rest by three. -/
theorem rest3 (hh : Int) : ∃ (u : Int) (i : Nat), IntKind.u64.wrap hh = u ∧ u.tmod 3 = (i : Int) ∧ IntKind.i64.wrap (u.tmod 3) = (i : Int) ∧ i < 3 := by
  have hu : 0 ≤ IntKind.u64.wrap hh := by
    rw [show IntKind.u64.wrap hh = hh % 18446744073709551616 from rfl]
    skip
    omega
  refine ⟨_, ((IntKind.u64.wrap hh) % 3).toNat, rfl, ?_, ?_, by omega⟩
  · rw [Int.tmod_eq_emod_of_nonneg hu]
    omega
  · rw [Int.tmod_eq_emod_of_nonneg hu, IntWalk.i64_in _ (by omega)]
    omega
theorem cell3 {W : World} {b a i t : Nat} {A : Nat → Nat} (h : W.heap[b]? = some (.cells #[pA A a, pA A (a + 1), pA A (a + 2)] t (0, 0))) (hi : i < 3) : W.cell? ⟨b, i, none⟩ = some (.pointer (some ⟨A (i + a), 0, none⟩)) := by
  rcases three hi with rfl | rfl | rfl
  · rw [show 0 + a = a by omega]; exact (blk_cell h 0).trans rfl
  · rw [show 1 + a = a + 1 by omega]; exact (blk_cell h 1).trans rfl
  · rw [show 2 + a = a + 2 by omega]; exact (blk_cell h 2).trans rfl
/-- The three boxes of a step, protected. -/
structure Bx (w : World) (Q : Nat → Prop) (A : Nat → Nat) (bl bw bo : Nat) (kd hh nn k0 k1 k2 : Int) : Prop where
  l : w.heap[bl]? = some (.cells #[pA A 0, pA A 1, pA A 2] 52 (0, 0))
  r : w.heap[bw]? = some (.cells #[pA A 3, pA A 4, pA A 5] 57 (0, 0))
  o : w.heap[bo]? = some (.cells #[.int .i64 kd, .int .i64 hh, .int .i64 nn, .int .u64 k0, .int .u64 k1, .int .i64 k2] 60 (0, 0))
  q : Q bl ∧ Q bw ∧ Q bo
theorem Bx.kept {bl bw bo : Nat} {kd hh nn k0 k1 k2 : Int} (h : Bx w Q A bl bw bo kd hh nn k0 k1 k2) (k : Kp Q w w') : Bx w' Q A bl bw bo kd hh nn k0 k1 k2 :=
  ⟨(k.at (lt_of_at h.l) h.q.1).trans h.l, (k.at (lt_of_at h.r) h.q.2.1).trans h.r, (k.at (lt_of_at h.o) h.q.2.2).trans h.o, h.q⟩
theorem Bx.more {bl bw bo a b : Nat} {kd hh nn k0 k1 k2 : Int} (h : Bx w Q A bl bw bo kd hh nn k0 k1 k2) : Bx w (Qx Q a b) A bl bw bo kd hh nn k0 k1 k2 := ⟨h.l, h.r, h.o, .inl h.q.1, .inl h.q.2.1, .inl h.q.2.2⟩
theorem Kp.below2 {w2 : World} (h : Kp Q w w2) (hb : Below w2.heap.size w2 w') : Kp Q w w' := h.trans (Kp.of_below hb)
theorem P3.up {N' : Nat} (h : P3 B w A N Q) (hn : N ≤ N') : P3 B w A N' Q := by
  obtain ⟨V, s, l, n, h⟩ := h
  exact ⟨V, s, l, n, h.hp, h.rf, h.ap, Nat.le_trans h.tot hn, h.ql, h.qf⟩
theorem stoodK2 : Try.prog.stoodInHeld 36 = false := by kernel_rfl
theorem stoodR2 : Try.prog.stoodInHeld 34 = false := by kernel_rfl
theorem eqU2 (d : Nat) (a b : Int) (w : World) : (Op.equalIn (d + 1) 29 (.int .u64 a) (.int .u64 b)).run Try.prog w = .ok (a == b) w := by
  rw [Op.equalIn]
  simp only [Sem.run_bind, run_underlying Try.underlying29, Result.andThen_ok]
  simp
theorem eqT2 (d : Nat) (a b : Int) (w : World) : (Op.equalIn (d + 1) 2 (.int .i64 a) (.int .i64 b)).run Try.prog w = .ok (a == b) w := by
  rw [Op.equalIn]
  simp only [Sem.run_bind, run_underlying Try.underlying2, Result.andThen_ok]
  simp
theorem aggU2 (w : World) : (isAgg 29).run Try.prog w = .ok false w := by kernel_rfl
theorem aggT2 (w : World) : (isAgg 2).run Try.prog w = .ok false w := by kernel_rfl
theorem partU2 (cs : Array Value) (o : Nat) (w : World) : (part 29 cs o).run Try.prog w = (match cs[o]? with | some v => (pure v : Sem Value) | none => stuck "part: no such cell").run Try.prog w := by
  simp only [part, Sem.run_bind, aggU2, Result.andThen_ok]
  rfl
theorem partT2 (cs : Array Value) (o : Nat) (w : World) : (part 2 cs o).run Try.prog w = (match cs[o]? with | some v => (pure v : Sem Value) | none => stuck "part: no such cell").run Try.prog w := by
  simp only [part, Sem.run_bind, aggT2, Result.andThen_ok]
  rfl
theorem partR2 (cs : Array Value) (o : Nat) (w : World) : (part 34 cs o).run Try.prog w = .ok (.agg (cs.extract o (o + 2))) w := by
  simp [part, Sem.run_bind, Result.andThen_ok]
theorem eqR2 (d : Nat) (a b : Int) (w : World) : (Op.equalIn (d + 1 + 1) 34 (.agg #[.int .u64 a, .int .u64 b]) (.agg #[.int .u64 a, .int .u64 b])).run Try.prog w = .ok true w := by
  rw [Op.equalIn]
  simp only [Sem.run_bind, run_underlying Try.underlying34, Result.andThen_ok, run_program, stoodR2]
  simp [partU2, eqU2, Sem.run_bind]
theorem eqKr (a b c : Int) : ∀ w : World, (Op.equalIn 10000 36 (.agg #[.int .u64 a, .int .u64 b, .int .i64 c]) (.agg #[.int .u64 a, .int .u64 b, .int .i64 c])).run Try.prog w = .ok true w := fun w => by
  have key : ∀ d, (Op.equalIn (d + 1 + 1 + 1) 36 (.agg #[.int .u64 a, .int .u64 b, .int .i64 c]) (.agg #[.int .u64 a, .int .u64 b, .int .i64 c])).run Try.prog w = .ok true w := fun d => by
    rw [Op.equalIn]
    simp only [Sem.run_bind, run_underlying Try.underlying36, Result.andThen_ok, run_program, stoodK2]
    simp [partR2, partT2, eqR2, eqT2, Sem.run_bind]
  exact key 9997
theorem Bx.s {bl bw bo : Nat} {kd hh nn k0 k1 k2 : Int} (h : Bx w Q A bl bw bo kd hh nn k0 k1 k2) : w.cell? ⟨bo, 2, none⟩ = some (.int .i64 nn) ∧ w.cell? ⟨bo, 3, none⟩ = some (.int .u64 k0) ∧ w.cell? ⟨bo, 4, none⟩ = some (.int .u64 k1) ∧ w.cell? ⟨bo, 5, none⟩ = some (.int .i64 k2) :=
  ⟨(blk_cell h.o 2).trans rfl, (blk_cell h.o 3).trans rfl, (blk_cell h.o 4).trans rfl, (blk_cell h.o 5).trans rfl⟩
/-- What a step is to show: the heaps are alike behind it too, and what is protected stands. -/
def Fin (B N : Nat) (A : Nat → Nat) (Q : Nat → Prop) (w w' : World) : Prop := P3 B w' A (N + 1) Q ∧ Kp Q w w'
end Go.Proofs.Ythdbiablpkeagaa
