/- Chapter 20: the cells of a command's job. -/
import Derived.Test.YtidcbcljeofooaaGreatDoorOrV
namespace Go.Proofs.YtidcbcljeofooaaGreatDoor
open Go.RowKit
theorem cm_at7 (c : Cm) (s : Sls) : (cmB c s)[7]? = some (.int .i64 c.job.id) := rfl
theorem cm_put7 {w : World} {g : Nat} {c : Cm} {s : Sls} {T : TypeId} (h : w.heap[g]? = some (.cells (cmB c s) T (0, 0))) (x : Int) : (w.setCell ⟨g, 7, none⟩ (.int .i64 x)).heap[g]? = some (.cells (cmB { c with job := { c.job with id := x } } s) T (0, 0)) :=
  heap_setCell_same w g 7 _ _ (.int .i64 x) h
theorem cm_at9 (c : Cm) (s : Sls) : (cmB c s)[9]? = some (.int .i64 c.job.pri) := rfl
theorem cm_put9 {w : World} {g : Nat} {c : Cm} {s : Sls} {T : TypeId} (h : w.heap[g]? = some (.cells (cmB c s) T (0, 0))) (x : Int) : (w.setCell ⟨g, 9, none⟩ (.int .i64 x)).heap[g]? = some (.cells (cmB { c with job := { c.job with pri := x } } s) T (0, 0)) :=
  heap_setCell_same w g 9 _ _ (.int .i64 x) h
theorem cm_at10 (c : Cm) (s : Sls) : (cmB c s)[10]? = some (.int .i64 c.job.run) := rfl
theorem cm_put10 {w : World} {g : Nat} {c : Cm} {s : Sls} {T : TypeId} (h : w.heap[g]? = some (.cells (cmB c s) T (0, 0))) (x : Int) : (w.setCell ⟨g, 10, none⟩ (.int .i64 x)).heap[g]? = some (.cells (cmB { c with job := { c.job with run := x } } s) T (0, 0)) :=
  heap_setCell_same w g 10 _ _ (.int .i64 x) h
theorem cm_at13 (c : Cm) (s : Sls) : (cmB c s)[13]? = some (.int .i64 c.job.st) := rfl
theorem cm_put13 {w : World} {g : Nat} {c : Cm} {s : Sls} {T : TypeId} (h : w.heap[g]? = some (.cells (cmB c s) T (0, 0))) (x : Int) : (w.setCell ⟨g, 13, none⟩ (.int .i64 x)).heap[g]? = some (.cells (cmB { c with job := { c.job with st := x } } s) T (0, 0)) :=
  heap_setCell_same w g 13 _ _ (.int .i64 x) h
theorem cm_at14 (c : Cm) (s : Sls) : (cmB c s)[14]? = some (.int .i64 c.job.att) := rfl
theorem cm_put14 {w : World} {g : Nat} {c : Cm} {s : Sls} {T : TypeId} (h : w.heap[g]? = some (.cells (cmB c s) T (0, 0))) (x : Int) : (w.setCell ⟨g, 14, none⟩ (.int .i64 x)).heap[g]? = some (.cells (cmB { c with job := { c.job with att := x } } s) T (0, 0)) :=
  heap_setCell_same w g 14 _ _ (.int .i64 x) h
theorem cm_at16 (c : Cm) (s : Sls) : (cmB c s)[16]? = some (.int .i64 c.job.start) := rfl
theorem cm_put16 {w : World} {g : Nat} {c : Cm} {s : Sls} {T : TypeId} (h : w.heap[g]? = some (.cells (cmB c s) T (0, 0))) (x : Int) : (w.setCell ⟨g, 16, none⟩ (.int .i64 x)).heap[g]? = some (.cells (cmB { c with job := { c.job with start := x } } s) T (0, 0)) :=
  heap_setCell_same w g 16 _ _ (.int .i64 x) h
theorem cm_at8 (c : Cm) (s : Sls) : (cmB c s)[8]? = some (.string c.job.ten) := rfl
theorem cm_put8 {w : World} {g : Nat} {c : Cm} {s : Sls} {T : TypeId} (h : w.heap[g]? = some (.cells (cmB c s) T (0, 0))) (x : ByteArray) : (w.setCell ⟨g, 8, none⟩ (.string x)).heap[g]? = some (.cells (cmB { c with job := { c.job with ten := x } } s) T (0, 0)) :=
  heap_setCell_same w g 8 _ _ (.string x) h
theorem cm_at11 (c : Cm) (s : Sls) : (cmB c s)[11]? = some (.slice s.a1 c.job.par.length s.c1) := rfl
theorem cm_put11 {w : World} {g : Nat} {c : Cm} {s : Sls} {T : TypeId} (h : w.heap[g]? = some (.cells (cmB c s) T (0, 0))) (x : List Int) (A : Option Addr) (n k : Nat) (hn : n = x.length) : (w.setCell ⟨g, 11, none⟩ (.slice A n k)).heap[g]? = some (.cells (cmB { c with job := { c.job with par := x } } { s with a1 := A, c1 := k }) T (0, 0)) := by
  subst hn
  exact heap_setCell_same w g 11 _ _ (.slice A x.length k) h
theorem cm_at12 (c : Cm) (s : Sls) : (cmB c s)[12]? = some (.slice s.a2 c.job.tsk.length s.c2) := rfl
theorem cm_put12 {w : World} {g : Nat} {c : Cm} {s : Sls} {T : TypeId} (h : w.heap[g]? = some (.cells (cmB c s) T (0, 0))) (x : List V) (A : Option Addr) (n k : Nat) (hn : n = x.length) : (w.setCell ⟨g, 12, none⟩ (.slice A n k)).heap[g]? = some (.cells (cmB { c with job := { c.job with tsk := x } } { s with a2 := A, c2 := k }) T (0, 0)) := by
  subst hn
  exact heap_setCell_same w g 12 _ _ (.slice A x.length k) h
theorem cm_at15 (c : Cm) (s : Sls) : (cmB c s)[15]? = some (.slice s.a3 c.job.nod.length s.c3) := rfl
theorem cm_put15 {w : World} {g : Nat} {c : Cm} {s : Sls} {T : TypeId} (h : w.heap[g]? = some (.cells (cmB c s) T (0, 0))) (x : List ByteArray) (A : Option Addr) (n k : Nat) (hn : n = x.length) : (w.setCell ⟨g, 15, none⟩ (.slice A n k)).heap[g]? = some (.cells (cmB { c with job := { c.job with nod := x } } { s with a3 := A, c3 := k }) T (0, 0)) := by
  subst hn
  exact heap_setCell_same w g 15 _ _ (.slice A x.length k) h
theorem cm_at17 (c : Cm) (s : Sls) : (cmB c s)[17]? = some (.slice s.a4 c.job.don.length s.c4) := rfl
theorem cm_put17 {w : World} {g : Nat} {c : Cm} {s : Sls} {T : TypeId} (h : w.heap[g]? = some (.cells (cmB c s) T (0, 0))) (x : List ByteArray) (A : Option Addr) (n k : Nat) (hn : n = x.length) : (w.setCell ⟨g, 17, none⟩ (.slice A n k)).heap[g]? = some (.cells (cmB { c with job := { c.job with don := x } } { s with a4 := A, c4 := k }) T (0, 0)) := by
  subst hn
  exact heap_setCell_same w g 17 _ _ (.slice A x.length k) h
theorem list1 {s : ByteArray} {w : World} {R : Nat} {bad : Bool} (hR : w.heap[R]? = some (.cells #[.bool bad] 63 (0, 0))) (hs : s.size ≤ 100000) :
    Calls Tryz.prog 56 #[.pointer (some ⟨R, 0, none⟩), .string s] w fun e w' => ∃ A zs cap n, n = zs.length ∧ e = .returned (.slice A n cap) ∧ w'.ownsRow w.heap.size 2 1 (.slice A zs.length cap) zs.length (flatR 1 fZ zs) ∧ (∀ x, lstP s.data.toList = some x → zs = x) ∧ Rdr R (bad || (lstP s.data.toList).isNone) w w' :=
  (list_any s w R bad hR hs).mono fun e w' ⟨v, zs, he, hrow, hz, _, hr⟩ => by
    obtain ⟨A, cap, rfl⟩ := rowR_shape hrow
    exact ⟨A, zs, cap, _, rfl, he, hrow, hz, hr⟩
theorem cmdP_2 (ws : List ByteArray) : cmdP 2 ws = (match numP (wl ws 1), numP (wl ws 3), numP (wl ws 4), lstP (wl ws 5), allP vecP ((ws.drop 6).map (·.data.toList)) with
    | some a, some p, some t, some l, some m => some { cmK 2 with job := ⟨a, wd ws 2, p, t, l, m.map vI, 0, 0, [], 0, []⟩ }
    | _, _, _, _, _ => none) := by
  unfold cmdP jobP wn
  cases numP (wl ws 1) <;> cases numP (wl ws 3) <;> cases numP (wl ws 4) <;> cases lstP (wl ws 5) <;> cases allP vecP ((ws.drop 6).map (·.data.toList)) <;> rfl
/-- A vector is put behind a row. -/
theorem rowV_app {B n cap : Nat} {A : Option Addr} {w T : World} {g : Nat} {zs : List V} {a b c d : Int} (h : w.ownsRow B 24 4 (.slice A n cap) n (flatR 4 fV zs)) (hn : n + 1 ≤ 1000000) (hB : B ≤ w.heap.size) (hb : Below w.heap.size w T) (hg : T.heap[g]? = some (.cells #[.int .i64 a, .int .i64 b, .int .i64 c, .int .i64 d] 24 (0, 0))) :
    ∃ g' cap' w8, (Builtin.append_ #[28, 28] 28 #[.slice A n cap, .slice (some ⟨g, 0, none⟩) 1 1]).run Tryz.prog T = .ok (.slice (some ⟨g', 0, none⟩) (n + 1) cap') w8 ∧
      w8.ownsRow B 24 4 (.slice (some ⟨g', 0, none⟩) (n + 1) cap') (n + 1) (flatR 4 fV (zs ++ [(a, b, c, d)])) ∧ Below B T w8 ∧ T.grownBy w8 (Value.slice A n cap).ownBlock := by
  obtain ⟨g', cap', w8, happ, hown, hG, -, -, hb8⟩ := rowR_app (m := [(a, b, c, d)]) (f := fV) recV (by omega) fV_one (rowR_below h hb) (by simp; omega) (by simp; omega) (Nat.le_trans hB hb.size) ⟨g, 0, none⟩ 1 (by simp) (fun o u hx => by
    have ho : o < 4 := by
      have := (List.getElem?_eq_some_iff.1 hx).1
      rw [flatR_len] at this
      simpa using this
    have e0 : (⟨g, 0, none⟩ : Addr).add o = ⟨g, o, none⟩ := by unfold Addr.add; split <;> simp_all
    rw [e0, blk_cell hg, ← hx, flatR_one, fV_range]
    match o, ho with
    | 0, _ => rfl
    | 1, _ => rfl
    | 2, _ => rfl
    | 3, _ => rfl)
  exact ⟨g', cap', w8, happ, hown, hb8, hG⟩
end Go.Proofs.YtidcbcljeofooaaGreatDoor
