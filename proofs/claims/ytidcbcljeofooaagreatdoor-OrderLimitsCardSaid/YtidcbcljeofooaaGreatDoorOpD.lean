/- Chapter 20: what the laws share: awake, plain; Print of what is not formed. -/
import Derived.Test.YtidcbcljeofooaaGreatDoorOpB
import Derived.Test.YtidcbcljeofooaaGreatDoorOrZ
import Derived.Test.YtidcbcljeofooaaGreatDoorOsA
namespace Go.Proofs.YtidcbcljeofooaaGreatDoor
open Go.RowKit
/-- A guarded load of a row. -/
theorem wpList_load_row_g {P : Program} {ops : Array Oper} {rest : List Oper} {o : Oper} {a : Act} {w : World} {Q : Exit → Act → World → Prop} (hw : Region.wanted o (yielded ops a.tmps) = true) (ty : TypeId) (x : Operand) (ho : o.op = .load ty x)
    (g : Nat) (hx : a.eval x = .pointer (some ⟨g, 0, none⟩)) (t : TypeId) (cs : Array Value) (fr : Nat × Nat) (d : TypeDesc) (hg : w.heap[g]? = some (.cells cs t fr))
    (hu : P.underlying ty = some d) (hd : (match d with | .struct _ | .array _ _ => true | _ => false) = true) (hi : (P.info? ty).map (·.size) = some cs.size)
    (h : wpList P ops Q rest (a.put o.dst (.agg cs)) w) : wpList P ops Q (o :: rest) a w :=
  wpList_step fun K hK => by
    rw [if_pos hw]
    exact wp_load_row ty x ho g hx t cs fr d hg hu hd hi (hK _ _ h)
theorem ldV {w : World} {g : Nat} {c : Cm} {s : Sls} {f : Nat × Nat} (h : w.heap[g]? = some (.cells (cmB c s) 33 f)) : (loadVar 33 ⟨g, 0, none⟩).run Tryz.prog w = .ok (.agg (cmB c s)) w :=
  run_loadVar_row w g _ 33 (cmB c s) f _ h Tryz.underlying33 rfl (infoC' _ _)
theorem ldC {w : World} {g : Nat} {c : Cm} {s : Sls} {f : Nat × Nat} (h : w.heap[g]? = some (.cells (cmB c s) 33 f)) : (Instr.loadAt 33 (.pointer (some ⟨g, 0, none⟩))).run Tryz.prog w = .ok (.agg (cmB c s)) w := by
  simp only [Instr.loadAt, Instr.sureAddr, Sem.run_bind, Sem.run_pure, Result.andThen_ok, run_loadVar_row w g _ 33 (cmB c s) f _ h Tryz.underlying33 rfl (infoC' _ _)]
theorem infoR : (Tryz.prog.info? 37).map (·.size) = some 26 := by kernel_rfl
theorem infoR' (c : Cm) (s : Sls) : (Tryz.prog.info? 37).map (·.size) = some (cmB c s).size := infoR
theorem zeroCmdR (w : World) : (zeroValue 37).run Tryz.prog w = .ok (.agg (cmB cm0 s0)) w := by kernel_rfl
section
set_option maxHeartbeats 4000000 in
set_option maxRecDepth 20000 in
theorem plain_any (c : Cm) (s : Sls) (w : World) : Calls Tryz.prog 12 #[.agg (cmB c s)] w fun e w' => e = .returned (.agg (cmB c s)) ∧ Below w.heap.size w w' := by
  obtain ⟨kind, tn, tw, ⟨t0, t1, t2, t3⟩, job, node, ep, ⟨v0, v1, v2, v3⟩, num, att⟩ := c
  obtain ⟨id, ten, pri, run, par, tsk, st, jatt, nod, start, don⟩ := job
  obtain ⟨a1, c1, a2, c2, a3, c3, a4, c4⟩ := s
  obtain ⟨C, hC⟩ : ∃ C : Array Value, C = cmB ⟨kind, tn, tw, (t0, t1, t2, t3), ⟨id, ten, pri, run, par, tsk, st, jatt, nod, start, don⟩, node, ep, (v0, v1, v2, v3), num, att⟩ ⟨a1, c1, a2, c2, a3, c3, a4, c4⟩ := ⟨_, rfl⟩
  have hne := cmB_ne ⟨kind, tn, tw, (t0, t1, t2, t3), ⟨id, ten, pri, run, par, tsk, st, jatt, nod, start, don⟩, node, ep, (v0, v1, v2, v3), num, att⟩ ⟨a1, c1, a2, c2, a3, c3, a4, c4⟩
  rw [← hC]
  unfold cmB at hC
  simp only at hC
  rw [hC]
  clear hC
  have hA : ∀ o : Obj, ((w.alloc o).alloc (.cells #[.int .i64 0, .string ⟨#[]⟩, .int .i64 0, .int .i64 0, .int .i64 0, .int .i64 0, .int .i64 0, .int .i64 0, .string ⟨#[]⟩, .int .i64 0, .int .i64 0, .slice none 0 0, .slice none 0 0, .int .i64 0, .int .i64 0, .slice none 0 0, .int .i64 0, .slice none 0 0, .string ⟨#[]⟩, .int .i64 0, .int .i64 0, .int .i64 0, .int .i64 0, .int .i64 0, .int .i64 0, .int .i64 0] 37)).heap[w.heap.size + 1]? = some (.cells #[.int .i64 0, .string ⟨#[]⟩, .int .i64 0, .int .i64 0, .int .i64 0, .int .i64 0, .int .i64 0, .int .i64 0, .string ⟨#[]⟩, .int .i64 0, .int .i64 0, .slice none 0 0, .slice none 0 0, .int .i64 0, .int .i64 0, .slice none 0 0, .int .i64 0, .slice none 0 0, .string ⟨#[]⟩, .int .i64 0, .int .i64 0, .int .i64 0, .int .i64 0, .int .i64 0, .int .i64 0, .int .i64 0] 37 (0, 0)) := fun o => (by (repeat (first | (with_reducible assumption) | (with_reducible exact alloc_at _ _) | ((with_reducible apply alloc_at'); (simp; done)) | (with_reducible apply alloc_at_lt) | (with_reducible apply heap_drew_at) | (with_reducible apply heap_drewN_at) | (with_reducible apply heap_setCell_same) | ((with_reducible apply heap_set_ne); (first | omega | (dsimp only; omega) | (simp; done) | (simp; omega))) | (with_reducible apply setRow_at) | ((with_reducible apply setRow_ne); (first | omega | (dsimp only; omega) | (simp; done) | (simp; omega))))))
  go_enter Tryz.func12, Tryz.ntmps12
  go_wp2_with (first | (refine wpList_store_row rfl 37 (.tmp 2) (.tmp 19) rfl (w.heap.size + 1) (cmB ⟨kind, tn, tw, (t0, t1, t2, t3), ⟨id, ten, pri, run, par, tsk, st, jatt, nod, start, don⟩, node, ep, (v0, v1, v2, v3), num, att⟩ ⟨a1, c1, a2, c2, a3, c3, a4, c4⟩) (by simp [Act.eval]) (by simp [Act.eval]; rfl) _ _ (hA _) (infoR' _ _) rfl (cmB_ones _ _) ?_))
  refine ret_row1 rfl (w.heap.size + 1) (cmB ⟨kind, tn, tw, (t0, t1, t2, t3), ⟨id, ten, pri, run, par, tsk, st, jatt, nod, start, don⟩, node, ep, (v0, v1, v2, v3), num, att⟩ ⟨a1, c1, a2, c2, a3, c3, a4, c4⟩) 37 _ rfl Tryz.underlying37 rfl (infoR' _ _) rfl ⟨_, setRow_at (hA _) _, rfl⟩ ?_
  refine ⟨rfl, ?_⟩
  exact below_setRow (below_alloc (below_alloc (Below.refl _ w) _) _) (Nat.le_succ _) _
end
def sCan : ByteArray := ⟨#[99, 97, 110, 99, 101, 108, 32, 55]⟩
theorem line_can : lineP sCan = ({ cm0 with kind := 3, num := 7 }, 0) := by decide +kernel
section
attribute [local go_sem ↓] zeroCmd buildCmd0
set_option maxHeartbeats 4000000 in
set_option maxRecDepth 20000 in
theorem awake_any (w : World) (hT : Lib.Utf8Tabs 0 1 w) : Calls Tryz.prog 8 #[] w fun e w' => e = .returned (.bool true) ∧ Below w.heap.size w w' := by
  have HP := hid (parse_any sCan w hT)
  unfold ParQ at HP
  rw [line_can] at HP
  unfold sCan at HP
  clear hT
  go_enter Tryz.func8, Tryz.ntmps8
  go_wp2_with fail
  refine HP.out.mono ?_
  rintro e w1 ⟨sl, rfl, -, hb1⟩
  have HB := hid hb1
  clear HP hb1
  have hne := cmB_ne { cm0 with kind := 3, num := 7 } sl
  have hA : (w1.alloc (.cells (cmB cm0 s0) 33)).heap[w1.heap.size]? = some (.cells (cmB cm0 s0) 33 (0, 0)) := alloc_at _ _
  have C1 : ((w1.alloc (.cells (cmB cm0 s0) 33)).setRow w1.heap.size (cmB { cm0 with kind := 3, num := 7 } sl)).heap[w1.heap.size]? = some (.cells (cmB { cm0 with kind := 3, num := 7 } sl) 33 (0, 0)) := setRow_at hA _
  have y0 := (cmB_cell C1 0).trans (show _ = some (Value.int .i64 3) from rfl)
  have y24 := (cmB_cell C1 24).trans (show _ = some (Value.int .i64 7) from rfl)
  have HE := hid (below_setRow (below_alloc' HB.out (.cells (cmB cm0 s0) 33)) HB.out.size (cmB { cm0 with kind := 3, num := 7 } sl))
  go_wp2_with (first | (refine wpList_store_row rfl 33 (.tmp 1) (.tmp 5) rfl w1.heap.size (cmB { cm0 with kind := 3, num := 7 } sl) (by simp [Act.eval]) (by simp [Act.eval]) _ _ hA (infoC' _ _) (cmB_sizes _ _ _ _) (cmB_ones _ _) ?_))
  go_ret
  exact ⟨rfl, HE.out⟩
end
section
attribute [local go_sem ↓] ldV
set_option maxHeartbeats 4000000 in
set_option maxRecDepth 20000 in
theorem print_unf {w : World} {c : Cm} {s : Sls} (hf : formB c = false) (h : CmL w c s) : Calls Tryz.prog 13 #[.agg (cmB c s)] w (PrQ c w) := by
  have HF := hid hf
  have HFO := hid (fun W (hb : Below w.heap.size w W) => oformed_any (h.below hb))
  have HP := hid (print_no hf)
  have hne := cmB_ne c s
  clear h hf
  have hA : (w.alloc (.cells (cmB c s) 33)).heap[w.heap.size]? = some (.cells (cmB c s) 33 (0, 0)) := alloc_at _ _
  go_enter Tryz.func13, Tryz.ntmps13
  go_wp2_with (first | (refine wpList_load_row rfl 33 (.tmp 1) rfl w.heap.size (by simp [Act.eval, Act.put]) _ _ _ _ hA Tryz.underlying33 rfl (infoC' _ _) ?_))
  refine (HFO.out _ (by repeat (first | with_reducible assumption | with_reducible exact Below.refl _ _ | with_reducible refine Below.drew ?_ | with_reducible refine below_drewN ?_ _ | with_reducible refine below_alloc ?_ _ | with_reducible refine Below.alloc ?_ (by first | omega | (simp; done) | (simp; omega)) _ | with_reducible refine Below.setCell ?_ (by first | omega | (simp; done) | (simp; omega)) _ | with_reducible refine below_setRow ?_ (by first | omega | (simp; done) | (simp; omega)) _))).mono ?_
  rintro e w2 ⟨rfl, hb2⟩
  rw [HF.out]
  have E2 := hid (below_one hb2)
  clear hA HFO hb2
  go_wp2_with fail
  go_ret2
  exact ⟨by rw [HP.out]; rfl, E2.out⟩
end
end Go.Proofs.YtidcbcljeofooaaGreatDoor
