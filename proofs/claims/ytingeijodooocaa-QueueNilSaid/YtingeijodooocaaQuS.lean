/- Chapter 14's queue: Push where it refuses. -/
import Derived.Test.YtingeijodooocaaQuR
namespace Go.Proofs.Ytingeijodooocaa
open Go.RowKit
variable {B q nA nH c : Nat} {w w' : World} {m : Option (Nat × Nat)} {A : WMap} {Hm : HMap} {D : List UInt8 → Hd} {L : List Wt}
def wtV (v : Wt) : Value := .agg #[.int .i64 v.job, .string v.ten, .int .i64 v.pri]
set_option maxHeartbeats 2000000 in
theorem qpush_range (q : Nat) (v : Wt) (w : World) (h : ¬ (1 ≤ v.job ∧ v.job ≤ 100 ∧ 0 ≤ v.pri ∧ v.pri ≤ 100)) :
    Calls Try.prog 10 #[.pointer (some ⟨q, 0, none⟩), wtV v] w fun e w' => e = .returned (.int .i64 2) ∧ Below w.heap.size w w' := by
  obtain ⟨j, t, p⟩ := v
  simp only [wtV] at h ⊢
  by_cases a : j < 1
  · clear h
    go_enter Try.func10, Try.ntmps10
    go_wp2
    go_ret
    exact ⟨rfl, (by repeat (first | with_reducible assumption | with_reducible exact Below.refl _ _ | with_reducible refine Below.drew ?_ | with_reducible refine below_drewN ?_ _ | with_reducible refine below_alloc ?_ _ | with_reducible refine Below.alloc ?_ (by first | omega | (simp; done) | (simp; omega)) _ | with_reducible refine Below.setCell ?_ (by first | omega | (simp; done) | (simp; omega)) _ | with_reducible refine below_setRow ?_ (by first | omega | (simp; done) | (simp; omega)) _))⟩
  · by_cases b : 100 < j
    · clear h
      go_enter Try.func10, Try.ntmps10
      go_wp2
      go_ret
      exact ⟨rfl, (by repeat (first | with_reducible assumption | with_reducible exact Below.refl _ _ | with_reducible refine Below.drew ?_ | with_reducible refine below_drewN ?_ _ | with_reducible refine below_alloc ?_ _ | with_reducible refine Below.alloc ?_ (by first | omega | (simp; done) | (simp; omega)) _ | with_reducible refine Below.setCell ?_ (by first | omega | (simp; done) | (simp; omega)) _ | with_reducible refine below_setRow ?_ (by first | omega | (simp; done) | (simp; omega)) _))⟩
    · by_cases d : p < 0
      · clear h
        go_enter Try.func10, Try.ntmps10
        go_wp2
        go_ret
        exact ⟨rfl, (by repeat (first | with_reducible assumption | with_reducible exact Below.refl _ _ | with_reducible refine Below.drew ?_ | with_reducible refine below_drewN ?_ _ | with_reducible refine below_alloc ?_ _ | with_reducible refine Below.alloc ?_ (by first | omega | (simp; done) | (simp; omega)) _ | with_reducible refine Below.setCell ?_ (by first | omega | (simp; done) | (simp; omega)) _ | with_reducible refine below_setRow ?_ (by first | omega | (simp; done) | (simp; omega)) _))⟩
      · have f : 100 < p := by omega
        clear h
        go_enter Try.func10, Try.ntmps10
        go_wp2
        go_ret
        exact ⟨rfl, (by repeat (first | with_reducible assumption | with_reducible exact Below.refl _ _ | with_reducible refine Below.drew ?_ | with_reducible refine below_drewN ?_ _ | with_reducible refine below_alloc ?_ _ | with_reducible refine Below.alloc ?_ (by first | omega | (simp; done) | (simp; omega)) _ | with_reducible refine Below.setCell ?_ (by first | omega | (simp; done) | (simp; omega)) _ | with_reducible refine below_setRow ?_ (by first | omega | (simp; done) | (simp; omega)) _))⟩
set_option maxHeartbeats 2000000 in
theorem qpush_none (v : Wt) (w : World) :
    Calls Try.prog 10 #[.pointer none, wtV v] w fun e w' => e = .returned (.int .i64 10) ∧ Below w.heap.size w w' := by
  obtain ⟨j, t, p⟩ := v
  simp only [wtV]
  go_enter Try.func10, Try.ntmps10
  go_wp2
  go_ret
  refine ⟨by simp, ?_⟩
  exact (by repeat (first | with_reducible assumption | with_reducible exact Below.refl _ _ | with_reducible refine Below.drew ?_ | with_reducible refine below_drewN ?_ _ | with_reducible refine below_alloc ?_ _ | with_reducible refine Below.alloc ?_ (by first | omega | (simp; done) | (simp; omega)) _ | with_reducible refine Below.setCell ?_ (by first | omega | (simp; done) | (simp; omega)) _ | with_reducible refine below_setRow ?_ (by first | omega | (simp; done) | (simp; omega)) _))
end Go.Proofs.Ytingeijodooocaa
