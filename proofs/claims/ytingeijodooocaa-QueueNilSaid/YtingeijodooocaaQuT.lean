/- Chapter 14's queue: Push of a job that waits; of a job that doesn't. -/
import Derived.Test.YtingeijodooocaaQuS
namespace Go.Proofs.Ytingeijodooocaa
open Go.RowKit
variable {B q nA nH c : Nat} {w w' : World} {m : Option (Nat × Nat)} {A : WMap} {Hm : HMap} {D : List UInt8 → Hd} {L : List Wt}
set_option maxRecDepth 20000 in
set_option maxHeartbeats 4000000 in
theorem qpush_twice (h : QuR B w q m nA A nH Hm) (v : Wt) (hr : 1 ≤ v.job ∧ v.job ≤ 100 ∧ 0 ≤ v.pri ∧ v.pri ≤ 100) {x : Wt × Nat} (hA : A v.job = some x) :
    Calls Try.prog 10 #[.pointer (some ⟨q, 0, none⟩), wtV v] w fun e w' => e = .returned (.int .i64 5) ∧ Below w.heap.size w w' := by
  have hlook := h.look v.job (wf_small (by omega) (by omega))
  rw [hA] at hlook
  have c0 := h.head.1
  have hlq := h.ltq
  clear h hA
  obtain ⟨j, t, p⟩ := v
  obtain ⟨⟨a, b, d⟩, e⟩ := x
  simp only [wtV, Option.getD_some, Option.isSome_some, mkW] at hlook hr ⊢
  obtain ⟨r1, r2, r3, r4⟩ := hr
  have r1' : ¬ j < 1 := by omega
  have r2' : ¬ 100 < j := by omega
  have r3' : ¬ p < 0 := by omega
  have r4' : ¬ 100 < p := by omega
  clear r1 r2 r3 r4
  generalize m.map (·.1) = mm at *
  have HL := hid hlook
  clear hlook
  go_enter Try.func10, Try.ntmps10
  go_upto_region 5 with fail
  refine wp_name ?_
  intro w1 hw1
  have A1 : w1.heap[w.heap.size]? = some (.cells #[.int .i64 j, .string t, .int .i64 p] 29 (0, 0)) := by rw [hw1]; exact (by (repeat (first | (with_reducible assumption) | (with_reducible exact alloc_at _ _) | ((with_reducible apply alloc_at'); (simp; done)) | (with_reducible apply alloc_at_lt) | (with_reducible apply heap_drew_at) | (with_reducible apply heap_drewN_at) | (with_reducible apply heap_setCell_same) | ((with_reducible apply heap_set_ne); (first | omega | (dsimp only; omega) | (simp; done) | (simp; omega))) | (with_reducible apply setRow_at) | ((with_reducible apply setRow_ne); (first | omega | (dsimp only; omega) | (simp; done) | (simp; omega))))))
  have B1 : Below w.heap.size w w1 := by rw [hw1]; exact (by repeat (first | with_reducible assumption | with_reducible exact Below.refl _ _ | with_reducible refine Below.drew ?_ | with_reducible refine below_drewN ?_ _ | with_reducible refine below_alloc ?_ _ | with_reducible refine Below.alloc ?_ (by first | omega | (simp; done) | (simp; omega)) _ | with_reducible refine Below.setCell ?_ (by first | omega | (simp; done) | (simp; omega)) _ | with_reducible refine below_setRow ?_ (by first | omega | (simp; done) | (simp; omega)) _))
  clear hw1
  have c1 : w1.cell? ⟨q, 0, none⟩ = some (.map mm) := (B1.cell (p := ⟨q, 0, none⟩) hlq).trans c0
  have x0 : w1.cell? ⟨w.heap.size, 0, none⟩ = some (.int .i64 j) := (blk_cell A1 0).trans rfl
  have hl1 := lt_of_at A1
  have hq1 : q < w1.heap.size := by have := B1.size; omega
  have HL1 : Hid (∀ W, Below w1.heap.size w1 W → (Instr.lookup 51 (.map mm) (.int .i64 j) true).run Try.prog W = .ok (.tuple #[.agg #[.int .i64 a, .string b, .int .i64 d, .int .i64 (e : Nat)], .bool true]) W) := fun W hb => HL.out W (B1.trans (hb.mono B1.size))
  clear c0 HL
  go_region_held3 (fun w' => w'.cell? ⟨q, 0, none⟩ = some (.map mm) ∧ w'.cell? ⟨w.heap.size, 0, none⟩ = some (.int .i64 j) ∧ (Instr.lookup 51 (.map mm) (.int .i64 j) true).run Try.prog w' = .ok (.tuple #[.agg #[.int .i64 a, .string b, .int .i64 d, .int .i64 (e : Nat)], .bool true]) w') ((refine ⟨?_, ?_, ?_⟩) <;> (first | (refine HL1.out _ ?_; (repeat (first | with_reducible assumption | with_reducible exact Below.refl _ _ | with_reducible refine Below.drew ?_ | with_reducible refine below_drewN ?_ _ | with_reducible refine below_alloc ?_ _ | with_reducible refine Below.alloc ?_ (by first | omega | (simp; done) | (simp; omega)) _ | with_reducible refine Below.setCell ?_ (by first | omega | (simp; done) | (simp; omega)) _ | with_reducible refine below_setRow ?_ (by first | omega | (simp; done) | (simp; omega)) _)); done) | (go_keep; done) | (with_reducible assumption))) (fail)
  all_goals
    go_wp2
    go_ret
    exact ⟨rfl, (by repeat (first | with_reducible assumption | with_reducible exact Below.refl _ _ | with_reducible refine Below.drew ?_ | with_reducible refine below_drewN ?_ _ | with_reducible refine below_alloc ?_ _ | with_reducible refine Below.alloc ?_ (by first | omega | (simp; done) | (simp; omega)) _ | with_reducible refine Below.setCell ?_ (by first | omega | (simp; done) | (simp; omega)) _ | with_reducible refine below_setRow ?_ (by first | omega | (simp; done) | (simp; omega)) _))⟩
end Go.Proofs.Ytingeijodooocaa
