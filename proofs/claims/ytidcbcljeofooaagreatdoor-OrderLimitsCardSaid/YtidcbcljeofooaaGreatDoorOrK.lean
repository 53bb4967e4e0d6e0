/- Chapter 20: the program's Formed: wire.Formed at a tenant and at a job. -/
import Derived.Test.YtidcbcljeofooaaGreatDoorOrJ
namespace Go.Proofs.YtidcbcljeofooaaGreatDoor
open Go.RowKit Go.WideShapes
theorem as_join (v : Value) (W : World) : (Instr.typeAssert (.iface 76 v) 117 76 true).run Tryz.prog W = .ok (.tuple #[v, .bool true]) W := by kernel_rfl
theorem as_sub (v : Value) (W : World) : (Instr.typeAssert (.iface 78 v) 117 78 true).run Tryz.prog W = .ok (.tuple #[v, .bool true]) W := by kernel_rfl
theorem as_no1 (v : Value) (W : World) : (Instr.typeAssert (.iface 78 v) 117 76 true).run Tryz.prog W = .ok (.tuple #[.agg #[.string ⟨#[]⟩, .int .i64 0, .int .i64 0, .int .i64 0, .int .i64 0, .int .i64 0], .bool false]) W := by kernel_rfl
theorem as_no2 (v : Value) (W : World) : (Instr.typeAssert (.iface 78 v) 117 120 true).run Tryz.prog W = .ok (.tuple #[.agg #[.string ⟨#[]⟩, .int .i64 0, .int .i64 0, .int .i64 0, .int .i64 0, .int .i64 0], .bool false]) W := by kernel_rfl
theorem as_no3 (v : Value) (W : World) : (Instr.typeAssert (.iface 78 v) 117 122 true).run Tryz.prog W = .ok (.tuple #[.agg #[.string ⟨#[]⟩], .bool false]) W := by kernel_rfl
theorem as_no4 (v : Value) (W : World) : (Instr.typeAssert (.iface 78 v) 117 123 true).run Tryz.prog W = .ok (.tuple #[.agg #[.string ⟨#[]⟩], .bool false]) W := by kernel_rfl
section
attribute [local go_sem ↓] as_join as_sub as_no1 as_no2 as_no3 as_no4
set_option maxHeartbeats 8000000 in
set_option maxRecDepth 20000 in
theorem wformed_ten (tn : ByteArray) (tw : Int) (tq : V) (w : World) (hs : tn.size ≤ maxLen) :
    Calls Tryz.prog 37 #[.iface 76 (.agg #[.string tn, .int .i64 tw, .int .i64 tq.1, .int .i64 tq.2.1, .int .i64 tq.2.2.1, .int .i64 tq.2.2.2])] w fun e w' => e = .returned (.bool (tenB tn tw tq)) ∧ Below w.heap.size w w' := by
  have HS := hid hs
  clear hs
  obtain ⟨q0, q1, q2, q3⟩ := tq
  simp only
  go_enter Tryz.func37, Tryz.ntmps37
  go_wp2_with fail
  refine (names_one (g := w.heap.size + 1) (s := tn) HS.out ?_).mono ?_
  · rw [blk_cell (alloc_at' (n := w.heap.size + 1) _ (by simp))]; rfl
  rintro e w2 ⟨rfl, hb2⟩
  obtain ⟨hc2, hf2⟩ := bcell hb2
  have B2 : Below w.heap.size w w2 := ((below_alloc (below_alloc (Below.refl _ w) _) _)).trans (hb2.mono (by simp; omega))
  have lz2 : w.heap.size < w2.heap.size := by have := hb2.size; simp at this; omega
  have HB2 := hid B2
  clear hb2 B2
  go_wp2_with (first | (go_at_call 41; refine (vecf_any (q0, q1, q2, q3) _).mono ?_; rintro e w3 ⟨rfl, hb3⟩))
  all_goals go_ret
  all_goals refine ⟨congrArg (fun b => Ending.returned (Value.bool b)) ?_, by first | exact HB2.out | exact HB2.out.trans (hb3.mono HB2.out.size)⟩
  all_goals unfold tenB
  all_goals first
    | (rw [‹nameB tn = true›, decide_eq_true (by omega)]; rfl)
    | (rw [‹nameB tn = true›, decide_eq_false (by omega)]; rfl)
    | (rw [eq_false_of_ne_true ‹¬ nameB tn = true›]; rfl)
set_option maxHeartbeats 8000000 in
set_option maxRecDepth 20000 in
theorem wformed_job (j : Jb) (s : Sls) (w : World) (hl : JbL j) (hm : Sl4 w j s) (hs : j.ten.size ≤ maxLen) :
    Calls Tryz.prog 37 #[.iface 78 (.agg (jbB j s))] w fun e w' => e = .returned (.bool (jobB j)) ∧ Below w.heap.size w w' := by
  have HJ := hid (fun W (hb : Below w.heap.size w W) => job_any j s W hl (hm.below hb) hs)
  clear hl hm hs
  unfold jbB at HJ ⊢
  go_enter Tryz.func37, Tryz.ntmps37
  go_wp2_with (first | (go_at_call 68; refine (HJ.out _ (by repeat (first | with_reducible assumption | with_reducible exact Below.refl _ _ | with_reducible refine Below.drew ?_ | with_reducible refine below_drewN ?_ _ | with_reducible refine below_alloc ?_ _ | with_reducible refine Below.alloc ?_ (by first | omega | (simp; done) | (simp; omega)) _ | with_reducible refine Below.setCell ?_ (by first | omega | (simp; done) | (simp; omega)) _ | with_reducible refine below_setRow ?_ (by first | omega | (simp; done) | (simp; omega)) _))).mono ?_; rintro e w2 ⟨rfl, hb2⟩))
  go_ret
  exact ⟨rfl, below_one hb2⟩
end
end Go.Proofs.YtidcbcljeofooaaGreatDoor
