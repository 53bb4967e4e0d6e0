/- Chapter 20: commands in memory; the reader's command: its frame. -/
import Derived.Test.YtidcbcljeofooaaGreatDoorOrU
import Derived.Test.YtidcbcljeofooaaGreatDoorOrC
namespace Go.Proofs.YtidcbcljeofooaaGreatDoor
open Go.RowKit
/-- Where a job's four slices lie. -/
structure Sls where
  a1 : Option Addr
  c1 : Nat
  a2 : Option Addr
  c2 : Nat
  a3 : Option Addr
  c3 : Nat
  a4 : Option Addr
  c4 : Nat
def s0 : Sls := ⟨none, 0, none, 0, none, 0, none, 0⟩
/-- A command's cells. -/
def cmB (c : Cm) (s : Sls) : Array Value :=
  #[.int .i64 c.kind, .string c.tn, .int .i64 c.tw, .int .i64 c.tq.1, .int .i64 c.tq.2.1, .int .i64 c.tq.2.2.1, .int .i64 c.tq.2.2.2,
    .int .i64 c.job.id, .string c.job.ten, .int .i64 c.job.pri, .int .i64 c.job.run, .slice s.a1 c.job.par.length s.c1, .slice s.a2 c.job.tsk.length s.c2, .int .i64 c.job.st, .int .i64 c.job.att, .slice s.a3 c.job.nod.length s.c3, .int .i64 c.job.start, .slice s.a4 c.job.don.length s.c4,
    .string c.node, .int .i64 c.ep, .int .i64 c.vec.1, .int .i64 c.vec.2.1, .int .i64 c.vec.2.2.1, .int .i64 c.vec.2.2.2, .int .i64 c.num, .int .i64 c.att]
theorem cmB_size (c : Cm) (s : Sls) : (cmB c s).size = 26 := rfl
theorem cmB_ones (c : Cm) (s : Sls) : (cmB c s).all (·.oneCell') = true := by
  unfold cmB
  simp [Value.oneCell']
theorem cmB_ne (c : Cm) (s : Sls) : ¬ cmB c s = #[] := fun h => by have := congrArg Array.size h; cases this
/-- A job's slices. -/
structure Sl4 (w : World) (j : Jb) (s : Sls) : Prop where
  p : SlG 1 fZ w s.a1 j.par.length j.par
  t : SlG 4 fV w s.a2 j.tsk.length j.tsk
  n : SlG 1 fS w s.a3 j.nod.length j.nod
  d : SlG 1 fS w s.a4 j.don.length j.don
def CmV (w : World) (c : Cm) (v : Value) : Prop := ∃ s, v = .agg (cmB c s) ∧ Sl4 w c.job s
theorem Sl4.below {w w' : World} {j : Jb} {s : Sls} (h : Sl4 w j s) (hb : Below w.heap.size w w') : Sl4 w' j s := ⟨h.p.below hb, h.t.below hb, h.n.below hb, h.d.below hb⟩
theorem CmV.below {w w' : World} {c : Cm} {v : Value} (h : CmV w c v) (hb : Below w.heap.size w w') : CmV w' c v := by
  obtain ⟨s, e, h1⟩ := h
  exact ⟨s, e, h1.below hb⟩
theorem slG_nil {α : Type} {z : Nat} {f : α → Nat → Value} {w : World} {A : Option Addr} : SlG z f w A 0 [] := ⟨rfl, .inl rfl⟩
theorem sl4_nil (w : World) (j : Jb) (s : Sls) (h1 : j.par = []) (h2 : j.tsk = []) (h3 : j.nod = []) (h4 : j.don = []) : Sl4 w j s :=
  ⟨by rw [h1]; exact slG_nil, by rw [h2]; exact slG_nil, by rw [h3]; exact slG_nil, by rw [h4]; exact slG_nil⟩
theorem zeroCmd (w : World) : (zeroValue 33).run Tryz.prog w = .ok (.agg (cmB cm0 s0)) w := by kernel_rfl
theorem buildCmd0 (w : World) : (Instr.build 33 #[]).run Tryz.prog w = .ok (.agg (cmB cm0 s0)) w := run_build w _ _ _ (by kernel_rfl)
/-- An empty command of a Kind. -/
def cmK (k : Int) : Cm := { cm0 with kind := k }
theorem cmB_kind (k : Int) : (cmB cm0 s0).setIfInBounds 0 (.int .i64 k) = cmB (cmK k) s0 := rfl
theorem cmB_cell {w : World} {g : Nat} {c : Cm} {s : Sls} {T : TypeId} (h : w.heap[g]? = some (.cells (cmB c s) T (0, 0))) (i : Nat) : w.cell? ⟨g, i, none⟩ = (cmB c s)[i]? := blk_cell h i
theorem cm_at1 (c : Cm) (s : Sls) : (cmB c s)[1]? = some (.string c.tn) := rfl
theorem cm_set1 (c : Cm) (s : Sls) (x : ByteArray) : (cmB c s).setIfInBounds 1 (.string x) = cmB { c with tn := x } s := rfl
theorem cm_put1 {w : World} {g : Nat} {c : Cm} {s : Sls} {T : TypeId} (h : w.heap[g]? = some (.cells (cmB c s) T (0, 0))) (x : ByteArray) : (w.setCell ⟨g, 1, none⟩ (.string x)).heap[g]? = some (.cells (cmB { c with tn := x } s) T (0, 0)) := by
  have := heap_setCell_same w g 1 _ _ (.string x) h
  rw [cm_set1] at this
  exact this
theorem cm_at2 (c : Cm) (s : Sls) : (cmB c s)[2]? = some (.int .i64 c.tw) := rfl
theorem cm_set2 (c : Cm) (s : Sls) (x : Int) : (cmB c s).setIfInBounds 2 (.int .i64 x) = cmB { c with tw := x } s := rfl
theorem cm_put2 {w : World} {g : Nat} {c : Cm} {s : Sls} {T : TypeId} (h : w.heap[g]? = some (.cells (cmB c s) T (0, 0))) (x : Int) : (w.setCell ⟨g, 2, none⟩ (.int .i64 x)).heap[g]? = some (.cells (cmB { c with tw := x } s) T (0, 0)) := by
  have := heap_setCell_same w g 2 _ _ (.int .i64 x) h
  rw [cm_set2] at this
  exact this
theorem cm_at3 (c : Cm) (s : Sls) : (cmB c s)[3]? = some (.int .i64 c.tq.1) := rfl
theorem cm_set3 (c : Cm) (s : Sls) (x : Int) : (cmB c s).setIfInBounds 3 (.int .i64 x) = cmB { c with tq := (x, c.tq.2.1, c.tq.2.2.1, c.tq.2.2.2) } s := rfl
theorem cm_put3 {w : World} {g : Nat} {c : Cm} {s : Sls} {T : TypeId} (h : w.heap[g]? = some (.cells (cmB c s) T (0, 0))) (x : Int) : (w.setCell ⟨g, 3, none⟩ (.int .i64 x)).heap[g]? = some (.cells (cmB { c with tq := (x, c.tq.2.1, c.tq.2.2.1, c.tq.2.2.2) } s) T (0, 0)) := by
  have := heap_setCell_same w g 3 _ _ (.int .i64 x) h
  rw [cm_set3] at this
  exact this
theorem cm_at4 (c : Cm) (s : Sls) : (cmB c s)[4]? = some (.int .i64 c.tq.2.1) := rfl
theorem cm_set4 (c : Cm) (s : Sls) (x : Int) : (cmB c s).setIfInBounds 4 (.int .i64 x) = cmB { c with tq := (c.tq.1, x, c.tq.2.2.1, c.tq.2.2.2) } s := rfl
theorem cm_put4 {w : World} {g : Nat} {c : Cm} {s : Sls} {T : TypeId} (h : w.heap[g]? = some (.cells (cmB c s) T (0, 0))) (x : Int) : (w.setCell ⟨g, 4, none⟩ (.int .i64 x)).heap[g]? = some (.cells (cmB { c with tq := (c.tq.1, x, c.tq.2.2.1, c.tq.2.2.2) } s) T (0, 0)) := by
  have := heap_setCell_same w g 4 _ _ (.int .i64 x) h
  rw [cm_set4] at this
  exact this
theorem cm_at5 (c : Cm) (s : Sls) : (cmB c s)[5]? = some (.int .i64 c.tq.2.2.1) := rfl
theorem cm_set5 (c : Cm) (s : Sls) (x : Int) : (cmB c s).setIfInBounds 5 (.int .i64 x) = cmB { c with tq := (c.tq.1, c.tq.2.1, x, c.tq.2.2.2) } s := rfl
theorem cm_put5 {w : World} {g : Nat} {c : Cm} {s : Sls} {T : TypeId} (h : w.heap[g]? = some (.cells (cmB c s) T (0, 0))) (x : Int) : (w.setCell ⟨g, 5, none⟩ (.int .i64 x)).heap[g]? = some (.cells (cmB { c with tq := (c.tq.1, c.tq.2.1, x, c.tq.2.2.2) } s) T (0, 0)) := by
  have := heap_setCell_same w g 5 _ _ (.int .i64 x) h
  rw [cm_set5] at this
  exact this
theorem cm_at6 (c : Cm) (s : Sls) : (cmB c s)[6]? = some (.int .i64 c.tq.2.2.2) := rfl
theorem cm_set6 (c : Cm) (s : Sls) (x : Int) : (cmB c s).setIfInBounds 6 (.int .i64 x) = cmB { c with tq := (c.tq.1, c.tq.2.1, c.tq.2.2.1, x) } s := rfl
theorem cm_put6 {w : World} {g : Nat} {c : Cm} {s : Sls} {T : TypeId} (h : w.heap[g]? = some (.cells (cmB c s) T (0, 0))) (x : Int) : (w.setCell ⟨g, 6, none⟩ (.int .i64 x)).heap[g]? = some (.cells (cmB { c with tq := (c.tq.1, c.tq.2.1, c.tq.2.2.1, x) } s) T (0, 0)) := by
  have := heap_setCell_same w g 6 _ _ (.int .i64 x) h
  rw [cm_set6] at this
  exact this
theorem cm_at18 (c : Cm) (s : Sls) : (cmB c s)[18]? = some (.string c.node) := rfl
theorem cm_set18 (c : Cm) (s : Sls) (x : ByteArray) : (cmB c s).setIfInBounds 18 (.string x) = cmB { c with node := x } s := rfl
theorem cm_put18 {w : World} {g : Nat} {c : Cm} {s : Sls} {T : TypeId} (h : w.heap[g]? = some (.cells (cmB c s) T (0, 0))) (x : ByteArray) : (w.setCell ⟨g, 18, none⟩ (.string x)).heap[g]? = some (.cells (cmB { c with node := x } s) T (0, 0)) := by
  have := heap_setCell_same w g 18 _ _ (.string x) h
  rw [cm_set18] at this
  exact this
theorem cm_at19 (c : Cm) (s : Sls) : (cmB c s)[19]? = some (.int .i64 c.ep) := rfl
theorem cm_set19 (c : Cm) (s : Sls) (x : Int) : (cmB c s).setIfInBounds 19 (.int .i64 x) = cmB { c with ep := x } s := rfl
theorem cm_put19 {w : World} {g : Nat} {c : Cm} {s : Sls} {T : TypeId} (h : w.heap[g]? = some (.cells (cmB c s) T (0, 0))) (x : Int) : (w.setCell ⟨g, 19, none⟩ (.int .i64 x)).heap[g]? = some (.cells (cmB { c with ep := x } s) T (0, 0)) := by
  have := heap_setCell_same w g 19 _ _ (.int .i64 x) h
  rw [cm_set19] at this
  exact this
theorem cm_at20 (c : Cm) (s : Sls) : (cmB c s)[20]? = some (.int .i64 c.vec.1) := rfl
theorem cm_set20 (c : Cm) (s : Sls) (x : Int) : (cmB c s).setIfInBounds 20 (.int .i64 x) = cmB { c with vec := (x, c.vec.2.1, c.vec.2.2.1, c.vec.2.2.2) } s := rfl
theorem cm_put20 {w : World} {g : Nat} {c : Cm} {s : Sls} {T : TypeId} (h : w.heap[g]? = some (.cells (cmB c s) T (0, 0))) (x : Int) : (w.setCell ⟨g, 20, none⟩ (.int .i64 x)).heap[g]? = some (.cells (cmB { c with vec := (x, c.vec.2.1, c.vec.2.2.1, c.vec.2.2.2) } s) T (0, 0)) := by
  have := heap_setCell_same w g 20 _ _ (.int .i64 x) h
  rw [cm_set20] at this
  exact this
theorem cm_at21 (c : Cm) (s : Sls) : (cmB c s)[21]? = some (.int .i64 c.vec.2.1) := rfl
theorem cm_set21 (c : Cm) (s : Sls) (x : Int) : (cmB c s).setIfInBounds 21 (.int .i64 x) = cmB { c with vec := (c.vec.1, x, c.vec.2.2.1, c.vec.2.2.2) } s := rfl
theorem cm_put21 {w : World} {g : Nat} {c : Cm} {s : Sls} {T : TypeId} (h : w.heap[g]? = some (.cells (cmB c s) T (0, 0))) (x : Int) : (w.setCell ⟨g, 21, none⟩ (.int .i64 x)).heap[g]? = some (.cells (cmB { c with vec := (c.vec.1, x, c.vec.2.2.1, c.vec.2.2.2) } s) T (0, 0)) := by
  have := heap_setCell_same w g 21 _ _ (.int .i64 x) h
  rw [cm_set21] at this
  exact this
theorem cm_at22 (c : Cm) (s : Sls) : (cmB c s)[22]? = some (.int .i64 c.vec.2.2.1) := rfl
theorem cm_set22 (c : Cm) (s : Sls) (x : Int) : (cmB c s).setIfInBounds 22 (.int .i64 x) = cmB { c with vec := (c.vec.1, c.vec.2.1, x, c.vec.2.2.2) } s := rfl
theorem cm_put22 {w : World} {g : Nat} {c : Cm} {s : Sls} {T : TypeId} (h : w.heap[g]? = some (.cells (cmB c s) T (0, 0))) (x : Int) : (w.setCell ⟨g, 22, none⟩ (.int .i64 x)).heap[g]? = some (.cells (cmB { c with vec := (c.vec.1, c.vec.2.1, x, c.vec.2.2.2) } s) T (0, 0)) := by
  have := heap_setCell_same w g 22 _ _ (.int .i64 x) h
  rw [cm_set22] at this
  exact this
theorem cm_at23 (c : Cm) (s : Sls) : (cmB c s)[23]? = some (.int .i64 c.vec.2.2.2) := rfl
theorem cm_set23 (c : Cm) (s : Sls) (x : Int) : (cmB c s).setIfInBounds 23 (.int .i64 x) = cmB { c with vec := (c.vec.1, c.vec.2.1, c.vec.2.2.1, x) } s := rfl
theorem cm_put23 {w : World} {g : Nat} {c : Cm} {s : Sls} {T : TypeId} (h : w.heap[g]? = some (.cells (cmB c s) T (0, 0))) (x : Int) : (w.setCell ⟨g, 23, none⟩ (.int .i64 x)).heap[g]? = some (.cells (cmB { c with vec := (c.vec.1, c.vec.2.1, c.vec.2.2.1, x) } s) T (0, 0)) := by
  have := heap_setCell_same w g 23 _ _ (.int .i64 x) h
  rw [cm_set23] at this
  exact this
theorem cm_at24 (c : Cm) (s : Sls) : (cmB c s)[24]? = some (.int .i64 c.num) := rfl
theorem cm_set24 (c : Cm) (s : Sls) (x : Int) : (cmB c s).setIfInBounds 24 (.int .i64 x) = cmB { c with num := x } s := rfl
theorem cm_put24 {w : World} {g : Nat} {c : Cm} {s : Sls} {T : TypeId} (h : w.heap[g]? = some (.cells (cmB c s) T (0, 0))) (x : Int) : (w.setCell ⟨g, 24, none⟩ (.int .i64 x)).heap[g]? = some (.cells (cmB { c with num := x } s) T (0, 0)) := by
  have := heap_setCell_same w g 24 _ _ (.int .i64 x) h
  rw [cm_set24] at this
  exact this
theorem cm_at25 (c : Cm) (s : Sls) : (cmB c s)[25]? = some (.int .i64 c.att) := rfl
theorem cm_set25 (c : Cm) (s : Sls) (x : Int) : (cmB c s).setIfInBounds 25 (.int .i64 x) = cmB { c with att := x } s := rfl
theorem cm_put25 {w : World} {g : Nat} {c : Cm} {s : Sls} {T : TypeId} (h : w.heap[g]? = some (.cells (cmB c s) T (0, 0))) (x : Int) : (w.setCell ⟨g, 25, none⟩ (.int .i64 x)).heap[g]? = some (.cells (cmB { c with att := x } s) T (0, 0)) := by
  have := heap_setCell_same w g 25 _ _ (.int .i64 x) h
  rw [cm_set25] at this
  exact this
theorem infoC : (Tryz.prog.info? 33).map (·.size) = some 26 := by kernel_rfl
/-- Where the slices lie: not below B. -/
def SlsB (B : Nat) (s : Sls) : Prop := ∀ a, (s.a1 = some a ∨ s.a2 = some a ∨ s.a3 = some a ∨ s.a4 = some a) → B ≤ a.block
theorem slsB_s0 (B : Nat) : SlsB B s0 := by
  rintro a (h | h | h | h) <;> cases h
/-- What command answers. -/
def ComQ (R : Nat) (bad : Bool) (k : Nat) (ws : List ByteArray) (w : World) (e : Ending) (w' : World) : Prop :=
  ∃ v, (∃ c s, v = .agg (cmB c s)) ∧ e = .returned v ∧ Rdr R (bad || (cmdP k ws).isNone) w w' ∧ ∀ c, cmdP k ws = some c → ∃ s, v = .agg (cmB c s) ∧ Sl4 w' c.job s ∧ SlsB w.heap.size s
theorem Rdr.drew {R : Nat} {b : Bool} {w w' : World} (h : Rdr R b w w') : Rdr R b w w'.drew := ⟨h.1, h.2.os, by simpa using h.2.tape, h.2.output, h.2.size, h.2.block⟩
/-- Words in memory, apart from the reader. -/
structure Wds (w : World) (R b off n : Nat) (ws : List ByteArray) : Prop where
  len : n = ws.length
  lt : b < w.heap.size
  ne : b ≠ R
  cell : ∀ i x, ws[i]? = some x → w.cell? ⟨b, off + i, none⟩ = some (.string x)
  small : ∀ x ∈ ws, x.size ≤ 100000
theorem Wds.at_ {w w' : World} {R b off n i : Nat} {ws : List ByteArray} {b' : Bool} (h : Wds w R b off n ws) (hr : Rdr R b' w w') (hi : i < n) : w'.cell? ⟨b, off + i, none⟩ = some (.string (wd ws i)) := by
  have hi2 : i < ws.length := by have := h.len; omega
  have e : ws[i]? = some (wd ws i) := by rw [List.getElem?_eq_getElem hi2, wd, List.getD_eq_getElem?_getD, List.getElem?_eq_getElem hi2]; rfl
  exact hr.cell (h.cell i _ e) h.ne h.lt
theorem Wds.sm {w : World} {R b off n i : Nat} {ws : List ByteArray} (h : Wds w R b off n ws) (hi : i < n) : (wd ws i).size ≤ 100000 := by
  have hi2 : i < ws.length := by have := h.len; omega
  refine h.small _ ?_
  rw [wd, List.getD_eq_getElem?_getD, List.getElem?_eq_getElem hi2]
  exact List.getElem_mem hi2
theorem cmB_sizes (c c' : Cm) (s s' : Sls) : (cmB c s).size = (cmB c' s').size := by rw [cmB_size, cmB_size]
theorem infoC' (c : Cm) (s : Sls) : (Tryz.prog.info? 33).map (·.size) = some (cmB c s).size := infoC
theorem comQ_ok2 {R k : Nat} {bad : Bool} {ws : List ByteArray} {w w' : World} {c : Cm} {s : Sls} (hb : SlsB w.heap.size s) (hr : Rdr R (bad || (cmdP k ws).isNone) w w') (h : ∀ x, cmdP k ws = some x → x = c ∧ Sl4 w' c.job s) : ComQ R bad k ws w (.returned (.agg (cmB c s))) w' :=
  ⟨_, ⟨c, s, rfl⟩, rfl, hr, fun x hx => by obtain ⟨rfl, h2⟩ := h x hx; exact ⟨s, rfl, h2, hb⟩⟩
theorem comQ_ok {R k : Nat} {bad : Bool} {ws : List ByteArray} {w w' : World} {c : Cm} (hr : Rdr R (bad || (cmdP k ws).isNone) w w') (h : ∀ x, cmdP k ws = some x → x = c ∧ Sl4 w' c.job s0) : ComQ R bad k ws w (.returned (.agg (cmB c s0))) w' := comQ_ok2 (slsB_s0 _) hr h
theorem vector4 {s : ByteArray} {w : World} {R : Nat} {bad : Bool} (hR : w.heap[R]? = some (.cells #[.bool bad] 63 (0, 0))) (hs : s.size ≤ 100000) :
    Calls Tryz.prog 55 #[.pointer (some ⟨R, 0, none⟩), .string s] w fun e w' => ∃ a b c d : Int, e = .returned (.agg #[.int .i64 a, .int .i64 b, .int .i64 c, .int .i64 d]) ∧ (∀ x, vecP s.data.toList = some x → (a, b, c, d) = vI x) ∧ Rdr R (bad || (vecP s.data.toList).isNone) w w' :=
  (vector_any s w R bad hR (by omega)).mono fun e w' ⟨v, he, hv, hr⟩ => ⟨v.1, v.2.1, v.2.2.1, v.2.2.2, he, hv, hr⟩
theorem number1 {s : ByteArray} {w : World} {R : Nat} {bad : Bool} (hR : w.heap[R]? = some (.cells #[.bool bad] 63 (0, 0))) (hs : s.size ≤ 100000) :
    Calls Tryz.prog 54 #[.pointer (some ⟨R, 0, none⟩), .string s] w (NumQ R bad s.data.toList w) := number_any s w R bad hR (by omega)
theorem cmdP_6 (ws : List ByteArray) : cmdP 6 ws = (match numP (wl ws 2) with | some a => some { cmK 6 with node := wd ws 1, ep := a } | none => none) := by
  unfold cmdP wn
  cases numP (wl ws 2) <;> rfl
theorem cmdP_5 (ws : List ByteArray) : cmdP 5 ws = (match numP (wl ws 2), vecP (wl ws 3) with | some a, some v => some { cmK 5 with node := wd ws 1, ep := a, vec := vI v } | _, _ => none) := by
  unfold cmdP wn wv
  cases numP (wl ws 2) <;> cases vecP (wl ws 3) <;> rfl
theorem cmdP_1 (ws : List ByteArray) : cmdP 1 ws = (match numP (wl ws 2), vecP (wl ws 3) with | some a, some v => some { cmK 1 with tn := wd ws 1, tw := a, tq := vI v } | _, _ => none) := by
  unfold cmdP wn wv
  cases numP (wl ws 2) <;> cases vecP (wl ws 3) <;> rfl
theorem cmdP_3 (ws : List ByteArray) : cmdP 3 ws = (match numP (wl ws 1) with | some a => some { cmK 3 with num := a } | none => none) := by
  unfold cmdP wn
  cases numP (wl ws 1) <;> rfl
theorem cmdP_4 (ws : List ByteArray) : cmdP 4 ws = (match numP (wl ws 1) with | some a => some { cmK 4 with num := a } | none => none) := by
  unfold cmdP wn
  cases numP (wl ws 1) <;> rfl
theorem cmdP_7 (ws : List ByteArray) : cmdP 7 ws = (match numP (wl ws 2), numP (wl ws 3), numP (wl ws 4) with | some a, some b, some c => some { cmK 7 with node := wd ws 1, ep := a, num := b, att := c } | _, _, _ => none) := by
  unfold cmdP wn
  cases numP (wl ws 2) <;> cases numP (wl ws 3) <;> cases numP (wl ws 4) <;> rfl
theorem cmdP_8 (ws : List ByteArray) : cmdP 8 ws = (match numP (wl ws 2), numP (wl ws 3), numP (wl ws 4) with | some a, some b, some c => some { cmK 8 with node := wd ws 1, ep := a, num := b, att := c } | _, _, _ => none) := by
  unfold cmdP wn
  cases numP (wl ws 2) <;> cases numP (wl ws 3) <;> cases numP (wl ws 4) <;> rfl
theorem cmdP_9 (ws : List ByteArray) : cmdP 9 ws = some (cmK 9) := rfl
theorem cmdP_10 (ws : List ByteArray) : cmdP 10 ws = some (cmK 10) := rfl
end Go.Proofs.YtidcbcljeofooaaGreatDoor
