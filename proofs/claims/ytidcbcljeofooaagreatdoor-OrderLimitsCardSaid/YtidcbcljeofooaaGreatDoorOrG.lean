/- Chapter 20: jobs by value; the empty job; small tests. -/
import Derived.Test.YtidcbcljeofooaaGreatDoorOrI
import Derived.Test.YtidcbcljeofooaaGreatDoorVecE
namespace Go.Proofs.YtidcbcljeofooaaGreatDoor
open Go.RowKit Go.WideShapes
/-- A job's cells. -/
def jbB (j : Jb) (s : Sls) : Array Value :=
  #[.int .i64 j.id, .string j.ten, .int .i64 j.pri, .int .i64 j.run, .slice s.a1 j.par.length s.c1, .slice s.a2 j.tsk.length s.c2, .int .i64 j.st, .int .i64 j.att, .slice s.a3 j.nod.length s.c3, .int .i64 j.start, .slice s.a4 j.don.length s.c4]
/-- Its lists are no longer than memory. -/
structure JbL (j : Jb) : Prop where
  p : j.par.length ≤ 140737488355328
  t : j.tsk.length ≤ 140737488355328
  n : j.nod.length ≤ 140737488355328
  d : j.don.length ≤ 140737488355328
def emptyB (j : Jb) : Bool := decide (j = jb0)
theorem empty_ne {j : Jb} (h : j ≠ jb0) : emptyB j = false := decide_eq_false h
theorem str_nil {s : ByteArray} (h : s.toList = []) : s = ⟨#[]⟩ := ByteArray.ext (Array.ext' (by rw [← Go.Lib.toList_data, h]))
set_option maxHeartbeats 4000000 in
set_option maxRecDepth 20000 in
theorem empty_any (j : Jb) (s : Sls) (w : World) (hl : JbL j) :
    Calls Tryz.prog 36 #[.agg (jbB j s)] w fun e w' => e = .returned (.bool (emptyB j)) ∧ Below w.heap.size w w' := by
  obtain ⟨id, ten, pri, run, par, tsk, st, att, nod, start, don⟩ := j
  obtain ⟨h1, h2, h3, h4⟩ := hl
  simp only at h1 h2 h3 h4
  unfold jbB
  simp only
  obtain ⟨np, hnp⟩ : ∃ n, n = par.length := ⟨_, rfl⟩
  obtain ⟨nt, hnt⟩ : ∃ n, n = tsk.length := ⟨_, rfl⟩
  obtain ⟨nn, hnn⟩ : ∃ n, n = nod.length := ⟨_, rfl⟩
  obtain ⟨nd, hnd⟩ : ∃ n, n = don.length := ⟨_, rfl⟩
  rw [← hnp] at h1 ⊢
  rw [← hnt] at h2 ⊢
  rw [← hnn] at h3 ⊢
  rw [← hnd] at h4 ⊢
  have HL : Hid (np = par.length ∧ nt = tsk.length ∧ nn = nod.length ∧ nd = don.length) := ⟨hnp, hnt, hnn, hnd⟩
  clear hnp hnt hnn hnd
  have iw1 : IntKind.i64.wrap ((np : Int) + (nt : Int)) = (np : Int) + (nt : Int) := IntWalk.i64_in _ (by omega)
  have iw2 : IntKind.i64.wrap ((np : Int) + (nt : Int) + (nn : Int)) = (np : Int) + (nt : Int) + (nn : Int) := IntWalk.i64_in _ (by omega)
  have iw3 : IntKind.i64.wrap ((np : Int) + (nt : Int) + (nn : Int) + (nd : Int)) = (np : Int) + (nt : Int) + (nn : Int) + (nd : Int) := IntWalk.i64_in _ (by omega)
  have FF : ∀ X, (⟨id, ten, pri, run, par, tsk, st, att, nod, start, don⟩ : Jb) ≠ jb0 → Below w.heap.size w X → Hid ((Ending.returned (.bool false)) = .returned (.bool (emptyB ⟨id, ten, pri, run, par, tsk, st, att, nod, start, don⟩)) ∧ Below w.heap.size w X) := fun X h hb => ⟨by rw [empty_ne h], hb⟩
  have HF := hid FF
  clear FF
  go_enter Tryz.func36, Tryz.ntmps36
  go_wp2
  all_goals go_ret
  all_goals refine ⟨?_, (by repeat (first | with_reducible assumption | with_reducible exact Below.refl _ _ | with_reducible refine Below.drew ?_ | with_reducible refine below_drewN ?_ _ | with_reducible refine below_alloc ?_ _ | with_reducible refine Below.alloc ?_ (by first | omega | (simp; done) | (simp; omega)) _ | with_reducible refine Below.setCell ?_ (by first | omega | (simp; done) | (simp; omega)) _ | with_reducible refine below_setRow ?_ (by first | omega | (simp; done) | (simp; omega)) _))⟩
  all_goals refine congrArg (fun b => Ending.returned (Value.bool b)) ?_
  all_goals clear HF iw1 iw2 iw3
  all_goals first
    | (refine (empty_ne (fun e => ?_)).symm; unfold jb0 at e; injection e with e1 e2 e3 e4 e5 e6 e7 e8 e9 e10 e11; first | contradiction | (rename_i hne; exact absurd (by rw [e2, Go.Lib.toList_data]) hne))
    | skip
  obtain ⟨rfl, rfl, rfl, rfl⟩ := HL.out
  rename_i h5 h6 h7 h8 h9 h10 h11
  have h12 := str_nil h6
  by_cases hz : par = [] ∧ tsk = [] ∧ nod = [] ∧ don = []
  · obtain ⟨rfl, rfl, rfl, rfl⟩ := hz
    have e : (⟨id, ten, pri, run, [], [], st, att, [], start, []⟩ : Jb) = jb0 := by rw [h5, h7, h8, h9, h10, h11, h12]; rfl
    rw [emptyB, decide_eq_true e]
    decide
  · rw [empty_ne (fun e => hz (by unfold jb0 at e; injection e with e1 e2 e3 e4 e5 e6 e7 e8 e9 e10 e11; exact ⟨e5, e6, e9, e11⟩)), beq_eq_false_iff_ne]
    intro h
    apply hz
    refine ⟨List.eq_nil_of_length_eq_zero ?_, List.eq_nil_of_length_eq_zero ?_, List.eq_nil_of_length_eq_zero ?_, List.eq_nil_of_length_eq_zero ?_⟩ <;> omega
end Go.Proofs.YtidcbcljeofooaaGreatDoor
