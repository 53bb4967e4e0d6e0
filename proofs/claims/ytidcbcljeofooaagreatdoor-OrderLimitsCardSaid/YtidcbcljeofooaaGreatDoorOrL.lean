/- Chapter 20: the program's Formed. -/
import Derived.Test.YtidcbcljeofooaaGreatDoorOrK
namespace Go.Proofs.YtidcbcljeofooaaGreatDoor
open Go.RowKit Go.WideShapes
/-- A command by value: its strings and lists are no longer than memory, its lists lie there. -/
structure CmL (w : World) (c : Cm) (s : Sls) : Prop where
  job : JbL c.job
  sl : Sl4 w c.job s
  tn : c.tn.size ≤ maxLen
  ten : c.job.ten.size ≤ maxLen
  node : c.node.size ≤ maxLen
theorem CmL.below {w w' : World} {c : Cm} {s : Sls} (h : CmL w c s) (hb : Below w.heap.size w w') : CmL w' c s := ⟨h.job, h.sl.below hb, h.tn, h.ten, h.node⟩
theorem aggSt (w : World) : (isAgg 9).run Tryz.prog w = .ok false w := by kernel_rfl
theorem aggVe (w : World) : (isAgg 24).run Tryz.prog w = .ok true w := by kernel_rfl
theorem sizeVe (w : World) : (sizeOf 24).run Tryz.prog w = .ok 4 w := by kernel_rfl
theorem partSt (cs : Array Value) (o : Nat) (w : World) : (part 9 cs o).run Tryz.prog w = (match cs[o]? with | some v => (pure v : Sem Value) | none => stuck "part: no such cell").run Tryz.prog w := by
  simp only [part, Sem.run_bind, aggSt, Result.andThen_ok]
  rfl
theorem partVe (cs : Array Value) (o : Nat) (w : World) : (part 24 cs o).run Tryz.prog w = .ok (.agg (cs.extract o (o + 4))) w := by
  simp [part, Sem.run_bind, Result.andThen_ok]
theorem eqSt (d : Nat) (a b : ByteArray) (w : World) : (Op.equalIn (d + 1) 9 (.string a) (.string b)).run Tryz.prog w = .ok (a == b) w := by
  rw [Op.equalIn]
  simp only [Sem.run_bind, run_underlying Tryz.underlying9, Result.andThen_ok]
  simp
theorem stoodT : Tryz.prog.stoodInHeld 26 = false := by kernel_rfl
/-- Two tenants alike. -/
def eqTB (a : ByteArray) (n : Int) (v : V) (a' : ByteArray) (n' : Int) (v' : V) : Bool := a == a' && (n == n' && (v.1 == v'.1 && (v.2.1 == v'.2.1 && (v.2.2.1 == v'.2.2.1 && v.2.2.2 == v'.2.2.2))))
theorem bytes_beq (a b : ByteArray) : (a == b) = true ↔ a = b := by
  obtain ⟨a⟩ := a
  obtain ⟨b⟩ := b
  show (a == b) = true ↔ _
  simp
theorem eqTB_iff (a : ByteArray) (n : Int) (v : V) (a' : ByteArray) (n' : Int) (v' : V) : eqTB a n v a' n' v' = true ↔ a = a' ∧ n = n' ∧ v = v' := by
  obtain ⟨c0, c1, c2, c3⟩ := v
  obtain ⟨d0, d1, d2, d3⟩ := v'
  unfold eqTB
  simp only [Bool.and_eq_true, bytes_beq, beq_iff_eq, Prod.mk.injEq]
def tnV (a : ByteArray) (n : Int) (v : V) : Value := .agg #[.string a, .int .i64 n, .int .i64 v.1, .int .i64 v.2.1, .int .i64 v.2.2.1, .int .i64 v.2.2.2]
theorem eqT' (d : Nat) (a : ByteArray) (n : Int) (v : V) (a' : ByteArray) (n' : Int) (v' : V) (w : World) : (Op.equalIn (d + 1 + 1 + 1) 26 (tnV a n v) (tnV a' n' v')).run Tryz.prog w = .ok (eqTB a n v a' n' v') w := by
  obtain ⟨c0, c1, c2, c3⟩ := v
  obtain ⟨c0', c1', c2', c3'⟩ := v'
  rw [Op.equalIn]
  simp only [tnV, Sem.run_bind, run_underlying Tryz.underlying26, Result.andThen_ok, run_program, stoodT]
  cases h0 : a == a'
  · simp [partSt, eqSt, Sem.run_bind, h0, eqTB]
  · cases h1 : n == n'
    · simp [partSt, eqSt, partI, eqInt, Sem.run_bind, h0, h1, eqTB]
    · cases h2 : (c0 == c0' && (c1 == c1' && (c2 == c2' && c3 == c3')))
      · simp [partSt, eqSt, partI, eqInt, partVe, eqV', Sem.run_bind, h0, h1, h2, eqTB]
      · simp [partSt, eqSt, partI, eqInt, partVe, eqV', Sem.run_bind, h0, h1, h2, eqTB]
theorem eqT (a : ByteArray) (n : Int) (v : V) (a' : ByteArray) (n' : Int) (v' : V) (w : World) : (Op.equalIn 10000 26 (.agg #[.string a, .int .i64 n, .int .i64 v.1, .int .i64 v.2.1, .int .i64 v.2.2.1, .int .i64 v.2.2.2]) (.agg #[.string a', .int .i64 n', .int .i64 v'.1, .int .i64 v'.2.1, .int .i64 v'.2.2.1, .int .i64 v'.2.2.2])).run Tryz.prog w = .ok (eqTB a n v a' n' v') w := eqT' 9997 a n v a' n' v' w
theorem nod_iff (a : ByteArray) : a = ⟨#[]⟩ ↔ a.toList = [] := ⟨fun h => by rw [h, Go.Lib.toList_data], fun h => str_nil h⟩
theorem vz_iff (v0 v1 v2 v3 : Int) : ((v0, v1, v2, v3) = zeroV) ↔ (v0 == 0 && (v1 == 0 && (v2 == 0 && v3 == 0))) = true := by
  unfold zeroV
  simp only [Prod.mk.injEq, Bool.and_eq_true, beq_iff_eq]
theorem vz_no {v0 v1 v2 v3 : Int} (h : (!v0 == 0) = true ∨ (!v1 == 0) = true ∨ (!v2 == 0) = true ∨ (!v3 == 0) = true) : (v0 == 0 && (v1 == 0 && (v2 == 0 && v3 == 0))) = false := by
  revert h
  cases (v0 == 0) <;> cases (v1 == 0) <;> cases (v2 == 0) <;> cases (v3 == 0) <;> simp
theorem vz_yes {v0 v1 v2 v3 : Int} (h : (!v0 == 0) = false ∧ (!v1 == 0) = false ∧ (!v2 == 0) = false ∧ (!v3 == 0) = false) : (v0 == 0 && (v1 == 0 && (v2 == 0 && v3 == 0))) = true := by
  revert h
  cases (v0 == 0) <;> cases (v1 == 0) <;> cases (v2 == 0) <;> cases (v3 == 0) <;> simp
section
variable {kind : Int} {tn : ByteArray} {tw t0 t1 t2 t3 : Int} {job j : Jb} {node : ByteArray} {ep v0 v1 v2 v3 num att : Int} {bT : Bool}
theorem formB_b (hj : j = job) (hb : bT = eqTB tn tw (t0, t1, t2, t3) ⟨#[]⟩ 0 (0, 0, 0, 0)) :
    formB ⟨kind, tn, tw, (t0, t1, t2, t3), job, node, ep, (v0, v1, v2, v3), num, att⟩ = ((decide (kind = 2) || emptyB j) && (decide (kind = 1) || bT) && (decide (kind = 5) || (v0 == 0 && (v1 == 0 && (v2 == 0 && v3 == 0)))) && rowsB ⟨kind, tn, tw, (t0, t1, t2, t3), job, node, ep, (v0, v1, v2, v3), num, att⟩) := by
  subst hj hb
  unfold formB onlyB
  congr 1
  rw [Bool.eq_iff_iff]
  simp only [Bool.and_eq_true, Bool.or_eq_true, decide_eq_true_eq, eqTB_iff, emptyB]
  have hz := vz_iff v0 v1 v2 v3
  simp only [Bool.and_eq_true] at hz
  rw [hz]
  rfl
theorem formB_1 (hj : j = job) (hb : bT = eqTB tn tw (t0, t1, t2, t3) ⟨#[]⟩ 0 (0, 0, 0, 0)) : formB ⟨1, tn, tw, (t0, t1, t2, t3), job, node, ep, (v0, v1, v2, v3), num, att⟩ = (emptyB j && (v0 == 0 && (v1 == 0 && (v2 == 0 && v3 == 0))) && (tenB tn tw (t0, t1, t2, t3) && (decide (node.toList = []) && decide (ep = 0) && decide (num = 0) && decide (att = 0)))) := by
  rw [formB_b hj hb]
  subst hj
  unfold rowsB
  simp only [nod_iff, Bool.decide_and]
  simp [Bool.and_assoc]
theorem formB_2 (hj : j = job) (hb : bT = eqTB tn tw (t0, t1, t2, t3) ⟨#[]⟩ 0 (0, 0, 0, 0)) : formB ⟨2, tn, tw, (t0, t1, t2, t3), job, node, ep, (v0, v1, v2, v3), num, att⟩ = (bT && (v0 == 0 && (v1 == 0 && (v2 == 0 && v3 == 0))) && (jobB j && (decide (node.toList = []) && decide (ep = 0) && decide (num = 0) && decide (att = 0)))) := by
  rw [formB_b hj hb]
  subst hj
  unfold rowsB
  simp only [nod_iff, Bool.decide_and]
  simp [Bool.and_assoc]
theorem formB_3 (hj : j = job) (hb : bT = eqTB tn tw (t0, t1, t2, t3) ⟨#[]⟩ 0 (0, 0, 0, 0)) : formB ⟨3, tn, tw, (t0, t1, t2, t3), job, node, ep, (v0, v1, v2, v3), num, att⟩ = (emptyB j && bT && (v0 == 0 && (v1 == 0 && (v2 == 0 && v3 == 0))) && (idB num && (decide (node.toList = []) && decide (ep = 0) && decide (att = 0)))) := by
  rw [formB_b hj hb]
  subst hj
  unfold rowsB
  simp only [nod_iff, Bool.decide_and]
  simp [Bool.and_assoc]
theorem formB_4 (hj : j = job) (hb : bT = eqTB tn tw (t0, t1, t2, t3) ⟨#[]⟩ 0 (0, 0, 0, 0)) : formB ⟨4, tn, tw, (t0, t1, t2, t3), job, node, ep, (v0, v1, v2, v3), num, att⟩ = (emptyB j && bT && (v0 == 0 && (v1 == 0 && (v2 == 0 && v3 == 0))) && (idB num && (decide (node.toList = []) && decide (ep = 0) && decide (att = 0)))) := by
  rw [formB_b hj hb]
  subst hj
  unfold rowsB
  simp only [nod_iff, Bool.decide_and]
  simp [Bool.and_assoc]
theorem formB_5 (hj : j = job) (hb : bT = eqTB tn tw (t0, t1, t2, t3) ⟨#[]⟩ 0 (0, 0, 0, 0)) : formB ⟨5, tn, tw, (t0, t1, t2, t3), job, node, ep, (v0, v1, v2, v3), num, att⟩ = (emptyB j && bT && (nameB node && epB ep && okV (v0, v1, v2, v3) && (decide (num = 0) && decide (att = 0)))) := by
  rw [formB_b hj hb]
  subst hj
  unfold rowsB
  simp only [nod_iff, Bool.decide_and]
  simp [Bool.and_assoc]
theorem formB_6 (hj : j = job) (hb : bT = eqTB tn tw (t0, t1, t2, t3) ⟨#[]⟩ 0 (0, 0, 0, 0)) : formB ⟨6, tn, tw, (t0, t1, t2, t3), job, node, ep, (v0, v1, v2, v3), num, att⟩ = (emptyB j && bT && (v0 == 0 && (v1 == 0 && (v2 == 0 && v3 == 0))) && (nameB node && epB ep && (decide (num = 0) && decide (att = 0)))) := by
  rw [formB_b hj hb]
  subst hj
  unfold rowsB
  simp only [nod_iff, Bool.decide_and]
  simp [Bool.and_assoc]
theorem formB_7 (hj : j = job) (hb : bT = eqTB tn tw (t0, t1, t2, t3) ⟨#[]⟩ 0 (0, 0, 0, 0)) : formB ⟨7, tn, tw, (t0, t1, t2, t3), job, node, ep, (v0, v1, v2, v3), num, att⟩ = (emptyB j && bT && (v0 == 0 && (v1 == 0 && (v2 == 0 && v3 == 0))) && (nameB node && epB ep && idB num && epB att)) := by
  rw [formB_b hj hb]
  subst hj
  unfold rowsB
  simp only [nod_iff, Bool.decide_and]
  simp [Bool.and_assoc]
theorem formB_8 (hj : j = job) (hb : bT = eqTB tn tw (t0, t1, t2, t3) ⟨#[]⟩ 0 (0, 0, 0, 0)) : formB ⟨8, tn, tw, (t0, t1, t2, t3), job, node, ep, (v0, v1, v2, v3), num, att⟩ = (emptyB j && bT && (v0 == 0 && (v1 == 0 && (v2 == 0 && v3 == 0))) && (nameB node && epB ep && idB num && epB att)) := by
  rw [formB_b hj hb]
  subst hj
  unfold rowsB
  simp only [nod_iff, Bool.decide_and]
  simp [Bool.and_assoc]
theorem formB_9 (hj : j = job) (hb : bT = eqTB tn tw (t0, t1, t2, t3) ⟨#[]⟩ 0 (0, 0, 0, 0)) : formB ⟨9, tn, tw, (t0, t1, t2, t3), job, node, ep, (v0, v1, v2, v3), num, att⟩ = (emptyB j && bT && (v0 == 0 && (v1 == 0 && (v2 == 0 && v3 == 0))) && ((decide (node.toList = []) && decide (ep = 0) && decide (num = 0) && decide (att = 0)))) := by
  rw [formB_b hj hb]
  subst hj
  unfold rowsB
  simp only [nod_iff, Bool.decide_and]
  simp [Bool.and_assoc]
theorem formB_10 (hj : j = job) (hb : bT = eqTB tn tw (t0, t1, t2, t3) ⟨#[]⟩ 0 (0, 0, 0, 0)) : formB ⟨10, tn, tw, (t0, t1, t2, t3), job, node, ep, (v0, v1, v2, v3), num, att⟩ = (emptyB j && bT && (v0 == 0 && (v1 == 0 && (v2 == 0 && v3 == 0))) && ((decide (node.toList = []) && decide (ep = 0) && decide (num = 0) && decide (att = 0)))) := by
  rw [formB_b hj hb]
  subst hj
  unfold rowsB
  simp only [nod_iff, Bool.decide_and]
  simp [Bool.and_assoc]
theorem formB_o (hk : ∀ k : Int, 1 ≤ k → k ≤ 10 → kind ≠ k) : formB ⟨kind, tn, tw, (t0, t1, t2, t3), job, node, ep, (v0, v1, v2, v3), num, att⟩ = false := by
  unfold formB rowsB
  have := hk
  simp [hk 1, hk 2, hk 3, hk 4, hk 5, hk 6, hk 7, hk 8, hk 9, hk 10]
end
end Go.Proofs.YtidcbcljeofooaaGreatDoor
