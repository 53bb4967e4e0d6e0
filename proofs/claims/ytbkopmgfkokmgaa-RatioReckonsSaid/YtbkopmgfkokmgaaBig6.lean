/- Contracts of the reference's numbers of 256 bits: up, plus, Of, Compare. Asked: that Of's number is a word. -/
import Derived.Test.YtbkopmgfkokmgaaProg
import Derived.Test.YtbkopmgfkokmgaaCls
import Derived.Test.YtbkopmgfkokmgaaBig5
import Derived.Deep.DrawnRows
import Derived.Deep.DeepCutAuto
import Derived.Test.YtbkopmgfkokmgaaRat
import Derived.BigRegion
import Derived.Deep.RegionHeld3
namespace Go.Proofs.Ytbkopmgfkokmgaa
open Go.RowKit
attribute [local go_sem ↓] zeroBig
theorem quiet_load_row {P : Program} {ops : Array Oper} {C : World → Prop} {Q : Act → Prop} {rest : List Oper} {o : Oper} {a : Act} (hgd : o.guard = none) (ty : TypeId) (x : Operand) (ho : o.op = .load ty x)
    (g : Nat) (hx : a.eval x = .pointer (some ⟨g, 0, none⟩)) (cs : Array Value) (d : TypeDesc) (hC : ∀ w, C w → ∃ t fr, w.heap[g]? = some (.cells cs t fr))
    (hu : P.underlying ty = some d) (hd : (match d with | .struct _ | .array _ _ => true | _ => false) = true) (hi : (P.info? ty).map (·.size) = some cs.size)
    (h : wpQuiet P ops C Q rest (a.put o.dst (.agg cs))) : wpQuiet P ops C Q (o :: rest) a := by
  have hw : Region.wanted o (yielded ops a.tmps) = true := by unfold Region.wanted; rw [hgd]
  show (if Region.wanted o (yielded ops a.tmps) then _ else _)
  rw [if_pos hw]
  refine ⟨.agg cs, fun w hw' => ?_, h⟩
  obtain ⟨t, fr, hg⟩ := hC w hw'
  unfold Oper.quietAt execOp
  simp only [ho, hx, Instr.loadAt, Instr.sureAddr, Sem.run_bind, Sem.run_pure, Result.andThen_ok, run_loadVar_row w g t ty cs fr d hg hu hd hi]
  exact ⟨rfl, rfl⟩
theorem ret_rows {P : Program} {fn : Func} {R : Ending → World → Prop} {a : Act} {w : World} {p u : Tmp} {ty ty' : TypeId} (h : fn.results = #[.cell p ty, .cell u ty']) (g k : Nat) (cs cs' : Array Value) (t t' : TypeId) (fr fr' : Nat × Nat) (d d' : TypeDesc)
    (hp : a.tmps.getD p undef = .pointer (some ⟨g, 0, none⟩)) (hq : a.tmps.getD u undef = .pointer (some ⟨k, 0, none⟩)) (hu : P.underlying ty = some d) (hd : (match d with | .struct _ | .array _ _ => true | _ => false) = true) (hi : (P.info? ty).map (·.size) = some cs.size)
    (hu' : P.underlying ty' = some d') (hd' : (match d' with | .struct _ | .array _ _ => true | _ => false) = true) (hi' : (P.info? ty').map (·.size) = some cs'.size)
    (hdf : a.defers = []) (hg : w.heap[g]? = some (.cells cs t fr)) (hk : w.heap[k]? = some (.cells cs' t' fr')) (hR : R (.returned (.tuple #[.agg cs, .agg cs'])) w) : bodyPost P fn R .ret a w := by
  refine bodyPost_ret (v := .tuple #[.agg cs, .agg cs']) ?_ hdf hR
  simp only [results, h]
  simp [Sem.run_bind, Result.andThen]
  simp at hp hq
  rw [hp, hq]
  simp [asAddr, run_loadVar_row w g t ty cs fr d hg hu hd hi, run_loadVar_row w k t' ty' cs' fr' d' hk hu' hd' hi']
theorem any_step {P : Program} {md : Region.Mode} {ops : Array Oper} {Q : Exit → Act → World → Prop} {fuel : Nat} {listed : Array Bool} {a : Act} {w : World} (l : List Nat) (hr : Region.ready md ops listed = l) (hne : l ≠ [])
    (h : ∀ i ∈ l, wpOp P ops Q i (wpAny P md ops Q fuel (listed.setIfInBounds i true)) a w) : wpAny P md ops Q (fuel + 1) listed a w :=
  ⟨fun h0 => absurd (hr.symm.trans h0) hne, fun i hi => h i (hr ▸ hi)⟩
theorem op_step {P : Program} {ops : Array Oper} {Q : Exit → Act → World → Prop} {i : Nat} {o : Oper} {K : Act → World → Prop} {a : Act} {w : World} (hi : ops[i]? = some o) (hg : o.guard = none) (h : o.wp P a w K Q) : wpOp P ops Q i K a w := by
  have hw : Region.wanted o (yielded ops a.tmps) = true := by unfold Region.wanted; rw [hg]
  unfold wpOp
  simp only [hi, hw, if_true]
  exact .inl h
/-- Two rows are read and laid into two others, where the second read may stand behind the first store: what comes of it is one. -/
theorem region_copy2 {P : Program} {T : TypeId} {o0 o1 o2 o3 : Oper} {id : Nat} {a : Act} {w : World} {Q : Exit → Act → World → Prop} (d0 d1 x0 x1 y0 y1 : Nat) (q t g k : Nat) (ca cb cg ck : Array Value) (d : TypeDesc)
    (hm : P.follows .mixedOrders = true)
    (e0 : o0.op = .load T (.tmp x0)) (g0 : o0.guard = none) (t0 : o0.dst = some d0) (e1 : o1.op = .load T (.tmp x1)) (g1 : o1.guard = none) (t1 : o1.dst = some d1)
    (e2 : o2.op = .store T (.tmp y0) (.tmp d0)) (g2 : o2.guard = none) (t2 : o2.dst = none) (e3 : o3.op = .store T (.tmp y1) (.tmp d1)) (g3 : o3.guard = none) (t3 : o3.dst = none)
    (r0 : Region.ready .any #[o0, o1, o2, o3] #[false, false, false, false] = [0, 1]) (r1 : Region.ready .any #[o0, o1, o2, o3] #[true, false, false, false] = [1, 2]) (r2 : Region.ready .any #[o0, o1, o2, o3] #[false, true, false, false] = [0])
    (r3 : Region.ready .any #[o0, o1, o2, o3] #[true, true, false, false] = [2]) (r4 : Region.ready .any #[o0, o1, o2, o3] #[true, false, true, false] = [1]) (r5 : Region.ready .any #[o0, o1, o2, o3] #[true, true, true, false] = [3]) (r6 : Region.ready .any #[o0, o1, o2, o3] #[true, true, true, true] = [])
    (hx0 : a.eval (.tmp x0) = .pointer (some ⟨q, 0, none⟩)) (hx1 : a.eval (.tmp x1) = .pointer (some ⟨t, 0, none⟩)) (hy0 : a.eval (.tmp y0) = .pointer (some ⟨g, 0, none⟩)) (hy1 : a.eval (.tmp y1) = .pointer (some ⟨k, 0, none⟩))
    (ev : ∀ (b : Act) (dd i : Nat) (v : Value), i ≠ dd → (b.put (some dd) v).eval (.tmp i) = b.eval (.tmp i)) (n0 : x0 ≠ d0 ∧ x0 ≠ d1) (n1 : x1 ≠ d0 ∧ x1 ≠ d1) (n2 : y0 ≠ d0 ∧ y0 ≠ d1) (n3 : y1 ≠ d0 ∧ y1 ≠ d1) (n4 : d0 ≠ d1) (s0 : ∀ v, (a.put (some d0) v).eval (.tmp d0) = v) (s1 : ∀ v, (a.put (some d1) v).eval (.tmp d1) = v) (s2 : ∀ v u, ((a.put (some d0) v).put (some d1) u).eval (.tmp d1) = u) (s3 : ∀ v u, ((a.put (some d1) v).put (some d0) u).eval (.tmp d0) = u)
    (hq : w.heap[q]? = some (.cells ca T (0, 0))) (ht : w.heap[t]? = some (.cells cb T (0, 0))) (hg : w.heap[g]? = some (.cells cg T (0, 0))) (hk : w.heap[k]? = some (.cells ck T (0, 0))) (ne1 : t ≠ g) (ne2 : k ≠ g)
    (hu : P.underlying T = some d) (hd : (match d with | .struct _ | .array _ _ => true | _ => false) = true) (ia : (P.info? T).map (·.size) = some ca.size) (ib : (P.info? T).map (·.size) = some cb.size) (sg : cg.size = ca.size) (sk : ck.size = cb.size) (c1 : ca.all (·.oneCell') = true) (c2 : cb.all (·.oneCell') = true)
    (h : ∀ a' : Act, (a' = (a.put (some d0) (.agg ca)).put (some d1) (.agg cb) ∨ a' = (a.put (some d1) (.agg cb)).put (some d0) (.agg ca)) → Q .normal a' ((w.drew.setRow g ca).setRow k cb)) : (Code.region id #[o0, o1, o2, o3] true).wp P Q a w := by
  have pn : ∀ b : Act, b.put none undef = b := fun b => rfl
  have hk' : (w.drew.setRow g ca).heap[k]? = some (.cells ck T (0, 0)) := setRow_ne ne2 hk _
  have ht' : (w.drew.setRow g ca).heap[t]? = some (.cells cb T (0, 0)) := setRow_ne ne1 ht _
  refine wp_region_any hm ?_
  show wpAny P .any #[o0, o1, o2, o3] Q (3 + 1) #[false, false, false, false] a w.drew
  refine any_step _ r0 (by simp) ?_
  intro i hi
  simp only [List.mem_cons, List.not_mem_nil, or_false] at hi
  rcases hi with rfl | rfl
  · refine op_step (o := o0) rfl g0 (wp_load_row T (.tmp x0) e0 q hx0 T ca _ d hq hu hd ia ?_)
    rw [t0]
    show wpAny P .any #[o0, o1, o2, o3] Q (2 + 1) #[true, false, false, false] _ w.drew
    refine any_step _ r1 (by simp) ?_
    intro i hi
    simp only [List.mem_cons, List.not_mem_nil, or_false] at hi
    rcases hi with rfl | rfl
    · refine op_step (o := o1) rfl g1 (wp_load_row T (.tmp x1) e1 t ((ev _ _ _ _ n1.1).trans hx1) T cb _ d ht hu hd ib ?_)
      rw [t1]
      show wpAny P .any #[o0, o1, o2, o3] Q (1 + 1) #[true, true, false, false] _ w.drew
      refine any_step _ r3 (by simp) ?_
      intro i hi
      simp only [List.mem_cons, List.not_mem_nil, or_false] at hi
      subst hi
      refine op_step (o := o2) rfl g2 (wp_store_row T (.tmp y0) (.tmp d0) e2 g ca ((ev _ _ _ _ n2.2).trans ((ev _ _ _ _ n2.1).trans hy0)) ((ev _ _ _ _ n4).trans (s0 _)) T cg hg ia sg c1 ?_)
      rw [t2, pn]
      show wpAny P .any #[o0, o1, o2, o3] Q (0 + 1) #[true, true, true, false] _ _
      refine any_step _ r5 (by simp) ?_
      intro i hi
      simp only [List.mem_cons, List.not_mem_nil, or_false] at hi
      subst hi
      refine op_step (o := o3) rfl g3 (wp_store_row T (.tmp y1) (.tmp d1) e3 k cb ((ev _ _ _ _ n3.2).trans ((ev _ _ _ _ n3.1).trans hy1)) (s2 _ _) T ck hk' ib sk c2 ?_)
      rw [t3, pn]
      exact ⟨r6, h _ (.inl rfl)⟩
    · refine op_step (o := o2) rfl g2 (wp_store_row T (.tmp y0) (.tmp d0) e2 g ca ((ev _ _ _ _ n2.1).trans hy0) (s0 _) T cg hg ia sg c1 ?_)
      rw [t2, pn]
      show wpAny P .any #[o0, o1, o2, o3] Q (1 + 1) #[true, false, true, false] _ _
      refine any_step _ r4 (by simp) ?_
      intro i hi
      simp only [List.mem_cons, List.not_mem_nil, or_false] at hi
      subst hi
      refine op_step (o := o1) rfl g1 (wp_load_row T (.tmp x1) e1 t ((ev _ _ _ _ n1.1).trans hx1) T cb _ d ht' hu hd ib ?_)
      rw [t1]
      show wpAny P .any #[o0, o1, o2, o3] Q (0 + 1) #[true, true, true, false] _ _
      refine any_step _ r5 (by simp) ?_
      intro i hi
      simp only [List.mem_cons, List.not_mem_nil, or_false] at hi
      subst hi
      refine op_step (o := o3) rfl g3 (wp_store_row T (.tmp y1) (.tmp d1) e3 k cb ((ev _ _ _ _ n3.2).trans ((ev _ _ _ _ n3.1).trans hy1)) (s2 _ _) T ck hk' ib sk c2 ?_)
      rw [t3, pn]
      exact ⟨r6, h _ (.inl rfl)⟩
  · refine op_step (o := o1) rfl g1 (wp_load_row T (.tmp x1) e1 t hx1 T cb _ d ht hu hd ib ?_)
    rw [t1]
    show wpAny P .any #[o0, o1, o2, o3] Q (2 + 1) #[false, true, false, false] _ w.drew
    refine any_step _ r2 (by simp) ?_
    intro i hi
    simp only [List.mem_cons, List.not_mem_nil, or_false] at hi
    subst hi
    refine op_step (o := o0) rfl g0 (wp_load_row T (.tmp x0) e0 q ((ev _ _ _ _ n0.2).trans hx0) T ca _ d hq hu hd ia ?_)
    rw [t0]
    show wpAny P .any #[o0, o1, o2, o3] Q (1 + 1) #[true, true, false, false] _ w.drew
    refine any_step _ r3 (by simp) ?_
    intro i hi
    simp only [List.mem_cons, List.not_mem_nil, or_false] at hi
    subst hi
    refine op_step (o := o2) rfl g2 (wp_store_row T (.tmp y0) (.tmp d0) e2 g ca ((ev _ _ _ _ n2.1).trans ((ev _ _ _ _ n2.2).trans hy0)) (s3 _ _) T cg hg ia sg c1 ?_)
    rw [t2, pn]
    show wpAny P .any #[o0, o1, o2, o3] Q (0 + 1) #[true, true, true, false] _ _
    refine any_step _ r5 (by simp) ?_
    intro i hi
    simp only [List.mem_cons, List.not_mem_nil, or_false] at hi
    subst hi
    refine op_step (o := o3) rfl g3 (wp_store_row T (.tmp y1) (.tmp d1) e3 k cb ((ev _ _ _ _ n3.1).trans ((ev _ _ _ _ n3.2).trans hy1)) ((ev _ _ _ _ n4.symm).trans (s1 _)) T ck hk' ib sk c2 ?_)
    rw [t3, pn]
    exact ⟨r6, h _ (.inr rfl)⟩
theorem cmpZ_ge' (a b : Int) : 0 ≤ cmpZ a b ↔ b ≤ a := by
  unfold cmpZ
  split
  · omega
  · split <;> omega
theorem eval_put (b : Act) (dd i : Nat) (v : Value) (h : i ≠ dd) : (b.put (some dd) v).eval (.tmp i) = b.eval (.tmp i) := by
  show (b.tmps.setIfInBounds dd v).getD i undef = b.tmps.getD i undef
  simp [Array.getD_eq_getD_getElem?, Array.getElem?_setIfInBounds, Ne.symm h]
theorem below_setRow_cell {B g k : Nat} {o : Nat} {w0 w : World} {cs : Array Value} {v : Value} (hb : Below B w0 w) (h1 : B ≤ g) (h2 : B ≤ k) : Below B w0 ((w.setRow g cs).setCell ⟨k, o, none⟩ v) :=
  Below.setCell (below_setRow hb h1 cs) h2 v
set_option maxRecDepth 100000 in
set_option maxHeartbeats 4000000 in
theorem divided_big (a b : Nat) (w : World) (hb0 : Hid (0 < b)) (hb1 : Hid (2 * b ≤ 2 ^ 256)) (ha : Hid (Big a)) :
    Calls Try.prog 40 #[.agg (bigA a), .agg (bigA b)] w fun e w' => e = .returned (.tuple #[.agg (bigA (a / b)), .agg (bigA (a % b))]) ∧ Below w.heap.size w w' := by
  have h0 : a / 2 ^ 256 = 0 := Nat.div_eq_of_lt ha.out
  have H0 := hid h0
  clear h0 ha
  go_enter Try.func40, Try.ntmps40
  go_wp2_with fail
  have hB0 : Below w.heap.size w ((((((w.alloc (.cells (bigA a) 51)).alloc (.cells (bigA b) 51)).alloc (.cells (bigA 0) 51)).alloc (.cells (bigA 0) 51)).alloc (.cells (bigA 0) 51)).alloc (.cells (bigA 0) 51)) := (by repeat (first | with_reducible assumption | with_reducible exact Below.refl _ _ | with_reducible refine Below.drew ?_ | with_reducible refine below_drewN ?_ _ | with_reducible refine below_alloc ?_ _ | with_reducible refine Below.alloc ?_ (by first | omega | (simp; done) | (simp; omega)) _ | with_reducible refine Below.setCell ?_ (by first | omega | (simp; done) | (simp; omega)) _ | with_reducible refine below_setRow ?_ (by first | omega | (simp; done) | (simp; omega)) _))
  have r0 : ((((((w.alloc (.cells (bigA a) 51)).alloc (.cells (bigA b) 51)).alloc (.cells (bigA 0) 51)).alloc (.cells (bigA 0) 51)).alloc (.cells (bigA 0) 51)).alloc (.cells (bigA 0) 51)).heap[w.heap.size]? = some (.cells (bigA (a)) 51 (0, 0)) := (by (repeat (first | (with_reducible assumption) | (with_reducible exact alloc_at _ _) | ((with_reducible apply alloc_at'); (simp; done)) | (with_reducible apply alloc_at_lt) | (with_reducible apply heap_drew_at) | (with_reducible apply heap_drewN_at) | (with_reducible apply heap_setCell_same) | ((with_reducible apply heap_set_ne); (first | omega | (dsimp only; omega) | (simp; done) | (simp; omega))) | (with_reducible apply setRow_at) | ((with_reducible apply setRow_ne); (first | omega | (dsimp only; omega) | (simp; done) | (simp; omega))))))
  have r1 : ((((((w.alloc (.cells (bigA a) 51)).alloc (.cells (bigA b) 51)).alloc (.cells (bigA 0) 51)).alloc (.cells (bigA 0) 51)).alloc (.cells (bigA 0) 51)).alloc (.cells (bigA 0) 51)).heap[w.heap.size + 1]? = some (.cells (bigA (b)) 51 (0, 0)) := (by (repeat (first | (with_reducible assumption) | (with_reducible exact alloc_at _ _) | ((with_reducible apply alloc_at'); (simp; done)) | (with_reducible apply alloc_at_lt) | (with_reducible apply heap_drew_at) | (with_reducible apply heap_drewN_at) | (with_reducible apply heap_setCell_same) | ((with_reducible apply heap_set_ne); (first | omega | (dsimp only; omega) | (simp; done) | (simp; omega))) | (with_reducible apply setRow_at) | ((with_reducible apply setRow_ne); (first | omega | (dsimp only; omega) | (simp; done) | (simp; omega))))))
  have r2 : ((((((w.alloc (.cells (bigA a) 51)).alloc (.cells (bigA b) 51)).alloc (.cells (bigA 0) 51)).alloc (.cells (bigA 0) 51)).alloc (.cells (bigA 0) 51)).alloc (.cells (bigA 0) 51)).heap[w.heap.size + 1 + 1]? = some (.cells (bigA (0)) 51 (0, 0)) := (by (repeat (first | (with_reducible assumption) | (with_reducible exact alloc_at _ _) | ((with_reducible apply alloc_at'); (simp; done)) | (with_reducible apply alloc_at_lt) | (with_reducible apply heap_drew_at) | (with_reducible apply heap_drewN_at) | (with_reducible apply heap_setCell_same) | ((with_reducible apply heap_set_ne); (first | omega | (dsimp only; omega) | (simp; done) | (simp; omega))) | (with_reducible apply setRow_at) | ((with_reducible apply setRow_ne); (first | omega | (dsimp only; omega) | (simp; done) | (simp; omega))))))
  have r3 : ((((((w.alloc (.cells (bigA a) 51)).alloc (.cells (bigA b) 51)).alloc (.cells (bigA 0) 51)).alloc (.cells (bigA 0) 51)).alloc (.cells (bigA 0) 51)).alloc (.cells (bigA 0) 51)).heap[w.heap.size + 1 + 1 + 1]? = some (.cells (bigA (0)) 51 (0, 0)) := (by (repeat (first | (with_reducible assumption) | (with_reducible exact alloc_at _ _) | ((with_reducible apply alloc_at'); (simp; done)) | (with_reducible apply alloc_at_lt) | (with_reducible apply heap_drew_at) | (with_reducible apply heap_drewN_at) | (with_reducible apply heap_setCell_same) | ((with_reducible apply heap_set_ne); (first | omega | (dsimp only; omega) | (simp; done) | (simp; omega))) | (with_reducible apply setRow_at) | ((with_reducible apply setRow_ne); (first | omega | (dsimp only; omega) | (simp; done) | (simp; omega))))))
  have r4 : ((((((w.alloc (.cells (bigA a) 51)).alloc (.cells (bigA b) 51)).alloc (.cells (bigA 0) 51)).alloc (.cells (bigA 0) 51)).alloc (.cells (bigA 0) 51)).alloc (.cells (bigA 0) 51)).heap[w.heap.size + 1 + 1 + 1 + 1]? = some (.cells (bigA (a / 2 ^ 256 / b * 2 ^ 256)) 51 (0, 0)) := by rw [H0.out, Nat.zero_div, Nat.zero_mul]; exact (by (repeat (first | (with_reducible assumption) | (with_reducible exact alloc_at _ _) | ((with_reducible apply alloc_at'); (simp; done)) | (with_reducible apply alloc_at_lt) | (with_reducible apply heap_drew_at) | (with_reducible apply heap_drewN_at) | (with_reducible apply heap_setCell_same) | ((with_reducible apply heap_set_ne); (first | omega | (dsimp only; omega) | (simp; done) | (simp; omega))) | (with_reducible apply setRow_at) | ((with_reducible apply setRow_ne); (first | omega | (dsimp only; omega) | (simp; done) | (simp; omega))))))
  have r5 : ((((((w.alloc (.cells (bigA a) 51)).alloc (.cells (bigA b) 51)).alloc (.cells (bigA 0) 51)).alloc (.cells (bigA 0) 51)).alloc (.cells (bigA 0) 51)).alloc (.cells (bigA 0) 51)).heap[w.heap.size + 1 + 1 + 1 + 1 + 1]? = some (.cells (bigA (a / 2 ^ 256 % b)) 51 (0, 0)) := by rw [H0.out, Nat.zero_mod]; exact (by (repeat (first | (with_reducible assumption) | (with_reducible exact alloc_at _ _) | ((with_reducible apply alloc_at'); (simp; done)) | (with_reducible apply alloc_at_lt) | (with_reducible apply heap_drew_at) | (with_reducible apply heap_drewN_at) | (with_reducible apply heap_setCell_same) | ((with_reducible apply heap_set_ne); (first | omega | (dsimp only; omega) | (simp; done) | (simp; omega))) | (with_reducible apply setRow_at) | ((with_reducible apply setRow_ne); (first | omega | (dsimp only; omega) | (simp; done) | (simp; omega))))))
  go_loopw [8] (fun i wr => ∃ k : Nat, k ≤ 256 ∧ i = .int .i64 ((k : Int) - 1) ∧ Below w.heap.size w wr ∧ wr.heap[w.heap.size]? = some (.cells (bigA (a)) 51 (0, 0)) ∧ wr.heap[w.heap.size + 1]? = some (.cells (bigA (b)) 51 (0, 0)) ∧ wr.heap[w.heap.size + 1 + 1]? = some (.cells (bigA (0)) 51 (0, 0)) ∧ wr.heap[w.heap.size + 1 + 1 + 1]? = some (.cells (bigA (0)) 51 (0, 0)) ∧ wr.heap[w.heap.size + 1 + 1 + 1 + 1]? = some (.cells (bigA (a / 2 ^ k / b * 2 ^ k)) 51 (0, 0)) ∧ wr.heap[w.heap.size + 1 + 1 + 1 + 1 + 1]? = some (.cells (bigA (a / 2 ^ k % b)) 51 (0, 0))) (fun i _ => (intOf i + 1).toNat)
  case atStart => exact ⟨256, by omega, by go_num, hB0, r0, r1, r2, r3, r4, r5⟩
  case round =>
    clear hB0 r0 r1 r2 r3 r4 r5 H0
    obtain ⟨k, hk, rfl, hB, A0, B0, R0, S0, Q0, T0⟩ := hrel
    have hl0 := lt_of_at A0
    have hl5 := lt_of_at T0
    have A0 := hid A0
    have B0 := hid B0
    have R0 := hid R0
    have S0 := hid S0
    have Q0 := hid Q0
    have T0 := hid T0
    by_cases hlt : 0 < k
    · obtain ⟨j, rfl⟩ : ∃ j, k = j + 1 := ⟨k - 1, by omega⟩
      rw [show ((j + 1 : Nat) : Int) - 1 = (j : Int) by omega]
      obtain ⟨r, hr⟩ : ∃ r, a / 2 ^ (j + 1) % b = r := ⟨_, rfl⟩
      rw [hr] at T0
      obtain ⟨hge, hlow, hrb⟩ := div_step hr hb0.out
      obtain ⟨c, hc⟩ : ∃ c, a.testBit j = c := ⟨_, rfl⟩
      rw [hc] at hge hlow
      have HCB : Hid (c = a.testBit j) := hid hc.symm
      have hcmp := fun W => compare_any (2 * r + c.toNat) b W (by have := hb1.out; have : c.toNat ≤ 1 := (by cases c <;> simp); omega) (by have := hb1.out; have := hb0.out; omega)
      have HGE := hid hge
      have HLOW := hid hlow
      clear hr hc hge hlow hrb
      by_cases hq : b ≤ 2 * r + c.toNat
      · obtain ⟨z, hz, z0⟩ : ∃ z : Int, cmpZ ((2 * r + c.toNat : Nat) : Int) (b : Int) = z ∧ 0 ≤ z := ⟨_, rfl, (cmpZ_ge' _ _).2 (by omega)⟩
        rw [hz] at hcmp
        have HCMP := hid hcmp
        have HQ := hid hq
        clear hcmp hz hq
        go_wp2_with (first | (refine wpList_load_row rfl 51 (.tmp 7) rfl (w.heap.size + 1 + 1 + 1 + 1 + 1) (by simp [Act.eval, Act.put]) _ _ _ _ T0.out Try.underlying51 rfl (infoBig' _) ?_))
        refine (up_any _ _).mono ?_
        rintro e w1 ⟨rfl, hb1⟩
        have hs1 := hb1.size
        have A1 := hid (show w1.heap[w.heap.size]? = some (.cells (bigA (a)) 51 (0, 0)) from below_at hb1 (by first | omega | (simp; done) | (simp; omega)) A0.out)
        have B1 := hid (show w1.heap[w.heap.size + 1]? = some (.cells (bigA (b)) 51 (0, 0)) from below_at hb1 (by first | omega | (simp; done) | (simp; omega)) B0.out)
        have R1 := hid (show w1.heap[w.heap.size + 1 + 1]? = some (.cells (bigA (0)) 51 (0, 0)) from below_at hb1 (by first | omega | (simp; done) | (simp; omega)) R0.out)
        have S1 := hid (show w1.heap[w.heap.size + 1 + 1 + 1]? = some (.cells (bigA (0)) 51 (0, 0)) from below_at hb1 (by first | omega | (simp; done) | (simp; omega)) S0.out)
        have Q1 := hid (show w1.heap[w.heap.size + 1 + 1 + 1 + 1]? = some (.cells (bigA (a / 2 ^ (j + 1) / b * 2 ^ (j + 1))) 51 (0, 0)) from below_at hb1 (by first | omega | (simp; done) | (simp; omega)) Q0.out)
        have T1 := hid (show w1.heap[w.heap.size + 1 + 1 + 1 + 1 + 1]? = some (.cells (bigA (r)) 51 (0, 0)) from below_at hb1 (by first | omega | (simp; done) | (simp; omega)) T0.out)
        have Bl1 : Below w.heap.size w w1 := Below.trans hB (hb1.mono (by first | omega | (simp; done) | (simp; omega)))
        clear hb1 A0 B0 R0 S0 Q0 T0 hB
        have ca : (w1.setRow (w.heap.size + 1 + 1 + 1 + 1 + 1) (bigA (2 * r))).cell? ⟨w.heap.size, j, none⟩ = some (.bool c) := by rw [HCB.out]; exact (blk_cell (setRow_ne (by omega) A1.out _) j).trans (bigA_get _ _ (by omega))
        obtain ⟨c0, cr⟩ : ∃ v, (w1.setRow (w.heap.size + 1 + 1 + 1 + 1 + 1) (bigA (2 * r))).cell? ⟨w.heap.size + 1 + 1 + 1 + 1 + 1, 0, none⟩ = some (.bool v) := ⟨_, (blk_cell (setRow_at T1.out _) 0).trans (bigA_get _ _ (by omega))⟩
        have fr := blk_free (setRow_at T1.out (bigA (2 * r)))
        have T2 := hid (show ((w1.setRow (w.heap.size + 1 + 1 + 1 + 1 + 1) (bigA (2 * r))).setCell ⟨w.heap.size + 1 + 1 + 1 + 1 + 1, 0, none⟩ (.bool c)).heap[w.heap.size + 1 + 1 + 1 + 1 + 1]? = some (.cells (bigA (2 * r + c.toNat)) 51 (0, 0)) from by
          have e := heap_setCell_same (w1.setRow (w.heap.size + 1 + 1 + 1 + 1 + 1) (bigA (2 * r))) (w.heap.size + 1 + 1 + 1 + 1 + 1) 0 _ _ (.bool c) (setRow_at T1.out _)
          rwa [bigA_set0] at e)
        have A2 := hid (show ((w1.setRow (w.heap.size + 1 + 1 + 1 + 1 + 1) (bigA (2 * r))).setCell ⟨w.heap.size + 1 + 1 + 1 + 1 + 1, 0, none⟩ (.bool c)).heap[w.heap.size]? = some (.cells (bigA (a)) 51 (0, 0)) from heap_set_ne (by dsimp only; omega) (setRow_ne (by omega) A1.out _))
        have B2 := hid (show ((w1.setRow (w.heap.size + 1 + 1 + 1 + 1 + 1) (bigA (2 * r))).setCell ⟨w.heap.size + 1 + 1 + 1 + 1 + 1, 0, none⟩ (.bool c)).heap[w.heap.size + 1]? = some (.cells (bigA (b)) 51 (0, 0)) from heap_set_ne (by dsimp only; omega) (setRow_ne (by omega) B1.out _))
        have R2 := hid (show ((w1.setRow (w.heap.size + 1 + 1 + 1 + 1 + 1) (bigA (2 * r))).setCell ⟨w.heap.size + 1 + 1 + 1 + 1 + 1, 0, none⟩ (.bool c)).heap[w.heap.size + 1 + 1]? = some (.cells (bigA (0)) 51 (0, 0)) from heap_set_ne (by dsimp only; omega) (setRow_ne (by omega) R1.out _))
        have S2 := hid (show ((w1.setRow (w.heap.size + 1 + 1 + 1 + 1 + 1) (bigA (2 * r))).setCell ⟨w.heap.size + 1 + 1 + 1 + 1 + 1, 0, none⟩ (.bool c)).heap[w.heap.size + 1 + 1 + 1]? = some (.cells (bigA (0)) 51 (0, 0)) from heap_set_ne (by dsimp only; omega) (setRow_ne (by omega) S1.out _))
        have Q2 := hid (show ((w1.setRow (w.heap.size + 1 + 1 + 1 + 1 + 1) (bigA (2 * r))).setCell ⟨w.heap.size + 1 + 1 + 1 + 1 + 1, 0, none⟩ (.bool c)).heap[w.heap.size + 1 + 1 + 1 + 1]? = some (.cells (bigA (a / 2 ^ (j + 1) / b * 2 ^ (j + 1))) 51 (0, 0)) from heap_set_ne (by dsimp only; omega) (setRow_ne (by omega) Q1.out _))
        go_wp2_with (first | (refine wpList_store_row rfl 51 (.tmp 7) (.tmp 14) rfl (w.heap.size + 1 + 1 + 1 + 1 + 1) (bigA (2 * r)) (by simp [Act.eval, Act.put]) (by simp [Act.eval, Act.put]) _ _ T1.out (infoBig' _) (by rw [bigA_size, bigA_size]) (bigA_one _) ?_) | (refine wpList_load_row rfl 51 (.tmp 7) rfl (w.heap.size + 1 + 1 + 1 + 1 + 1) (by simp [Act.eval, Act.put]) _ _ _ _ T2.out Try.underlying51 rfl (infoBig' _) ?_) | (refine wpList_load_row rfl 51 (.tmp 3) rfl (w.heap.size + 1) (by simp [Act.eval, Act.put]) _ _ _ _ B2.out Try.underlying51 rfl (infoBig' _) ?_))
        clear ca cr fr
        refine (HCMP.out _).mono ?_
        rintro e w3 ⟨rfl, hb3⟩
        have hs3 := hb3.size
        simp only [World.size_setCell, size_setRow] at hs3
        have A3 := hid (show w3.heap[w.heap.size]? = some (.cells (bigA (a)) 51 (0, 0)) from below_at hb3 (by first | omega | (simp; done) | (simp; omega)) A2.out)
        have B3 := hid (show w3.heap[w.heap.size + 1]? = some (.cells (bigA (b)) 51 (0, 0)) from below_at hb3 (by first | omega | (simp; done) | (simp; omega)) B2.out)
        have R3 := hid (show w3.heap[w.heap.size + 1 + 1]? = some (.cells (bigA (0)) 51 (0, 0)) from below_at hb3 (by first | omega | (simp; done) | (simp; omega)) R2.out)
        have S3 := hid (show w3.heap[w.heap.size + 1 + 1 + 1]? = some (.cells (bigA (0)) 51 (0, 0)) from below_at hb3 (by first | omega | (simp; done) | (simp; omega)) S2.out)
        have Q3 := hid (show w3.heap[w.heap.size + 1 + 1 + 1 + 1]? = some (.cells (bigA (a / 2 ^ (j + 1) / b * 2 ^ (j + 1))) 51 (0, 0)) from below_at hb3 (by first | omega | (simp; done) | (simp; omega)) Q2.out)
        have T3 := hid (show w3.heap[w.heap.size + 1 + 1 + 1 + 1 + 1]? = some (.cells (bigA (2 * r + c.toNat)) 51 (0, 0)) from below_at hb3 (by first | omega | (simp; done) | (simp; omega)) T2.out)
        have Bl3 : Below w.heap.size w w3 := Below.trans (a := w) (below_setRow_cell Bl1 (by omega) (by omega)) (hb3.mono (by first | omega | (simp; done) | (simp; omega)))
        clear hb3 A2 B2 R2 S2 Q2 T2 A1 B1 R1 S1 Q1 T1 Bl1
        go_wp2_with (first | (refine wpList_load_row rfl 51 (.tmp 7) rfl (w.heap.size + 1 + 1 + 1 + 1 + 1) (by simp [Act.eval, Act.put]) _ _ _ _ T3.out Try.underlying51 rfl (infoBig' _) ?_) | (refine wpList_load_row rfl 51 (.tmp 3) rfl (w.heap.size + 1) (by simp [Act.eval, Act.put]) _ _ _ _ B3.out Try.underlying51 rfl (infoBig' _) ?_))
        refine (minus_any _ _ HQ _).mono ?_
        rintro e w4 ⟨rfl, hb4⟩
        have hs4 := hb4.size
        have A4 := hid (show w4.heap[w.heap.size]? = some (.cells (bigA (a)) 51 (0, 0)) from below_at hb4 (by first | omega | (simp; done) | (simp; omega)) A3.out)
        have B4 := hid (show w4.heap[w.heap.size + 1]? = some (.cells (bigA (b)) 51 (0, 0)) from below_at hb4 (by first | omega | (simp; done) | (simp; omega)) B3.out)
        have R4 := hid (show w4.heap[w.heap.size + 1 + 1]? = some (.cells (bigA (0)) 51 (0, 0)) from below_at hb4 (by first | omega | (simp; done) | (simp; omega)) R3.out)
        have S4 := hid (show w4.heap[w.heap.size + 1 + 1 + 1]? = some (.cells (bigA (0)) 51 (0, 0)) from below_at hb4 (by first | omega | (simp; done) | (simp; omega)) S3.out)
        have Q4 := hid (show w4.heap[w.heap.size + 1 + 1 + 1 + 1]? = some (.cells (bigA (a / 2 ^ (j + 1) / b * 2 ^ (j + 1))) 51 (0, 0)) from below_at hb4 (by first | omega | (simp; done) | (simp; omega)) Q3.out)
        have T4 := hid (show w4.heap[w.heap.size + 1 + 1 + 1 + 1 + 1]? = some (.cells (bigA (2 * r + c.toNat)) 51 (0, 0)) from below_at hb4 (by first | omega | (simp; done) | (simp; omega)) T3.out)
        have Bl4 : Below w.heap.size w w4 := Below.trans Bl3 (hb4.mono (by first | omega | (simp; done) | (simp; omega)))
        clear hb4 A3 B3 R3 S3 Q3 T3 Bl3
        obtain ⟨cq, hcq⟩ : ∃ v, (w4.setRow (w.heap.size + 1 + 1 + 1 + 1 + 1) (bigA (2 * r + c.toNat - b))).cell? ⟨w.heap.size + 1 + 1 + 1 + 1, j, none⟩ = some (.bool v) := ⟨_, (blk_cell (setRow_ne (by omega) Q4.out _) j).trans (bigA_get _ _ (by omega))⟩
        have fq := blk_free (setRow_ne (g := w.heap.size + 1 + 1 + 1 + 1 + 1) (by omega) Q4.out (bigA (2 * r + c.toNat - b)))
        go_wp2_with (first | (refine wpList_store_row rfl 51 (.tmp 7) (.tmp 25) rfl (w.heap.size + 1 + 1 + 1 + 1 + 1) (bigA (2 * r + c.toNat - b)) (by simp [Act.eval, Act.put]) (by simp [Act.eval, Act.put]) _ _ T4.out (infoBig' _) (by rw [bigA_size, bigA_size]) (bigA_one _) ?_))
        go_roundw
        case rel =>
          obtain ⟨e1, e2⟩ := HGE.out HQ.out
          refine ⟨j, by omega, by go_num, below_setRow_cell (g := w.heap.size + 1 + 1 + 1 + 1 + 1) (k := w.heap.size + 1 + 1 + 1 + 1) Bl4 (by omega) (by omega), heap_set_ne (by dsimp only; omega) (setRow_ne (by omega) A4.out _), heap_set_ne (by dsimp only; omega) (setRow_ne (by omega) B4.out _), heap_set_ne (by dsimp only; omega) (setRow_ne (by omega) R4.out _), heap_set_ne (by dsimp only; omega) (setRow_ne (by omega) S4.out _), ?_, ?_⟩
          · have e := heap_setCell_same (w4.setRow (w.heap.size + 1 + 1 + 1 + 1 + 1) (bigA (2 * r + c.toNat - b))) (w.heap.size + 1 + 1 + 1 + 1) j _ _ (.bool true) (setRow_ne (by omega) Q4.out _)
            rw [bigA_setj _ _ (by omega)] at e
            rw [e1, show (2 * (a / 2 ^ (j + 1) / b) + 1) * 2 ^ j = a / 2 ^ (j + 1) / b * 2 ^ (j + 1) + 2 ^ j by rw [Nat.add_mul, Nat.one_mul, Nat.pow_succ, Nat.mul_comm 2, Nat.mul_assoc, Nat.mul_comm 2]]
            exact e
          · rw [e2]; exact heap_set_ne (by dsimp only; omega) (setRow_at T4.out _)
        case measure => first | (simp [intOf]; done) | (simp [intOf]; omega)
      · obtain ⟨z, hz, z0⟩ : ∃ z : Int, cmpZ ((2 * r + c.toNat : Nat) : Int) (b : Int) = z ∧ z < 0 := ⟨_, rfl, by have := (cmpZ_ge' ((2 * r + c.toNat : Nat) : Int) (b : Int)).1; omega⟩
        rw [hz] at hcmp
        have HCMP := hid hcmp
        have HQ := hid hq
        clear hcmp hz hq
        go_wp2_with (first | (refine wpList_load_row rfl 51 (.tmp 7) rfl (w.heap.size + 1 + 1 + 1 + 1 + 1) (by simp [Act.eval, Act.put]) _ _ _ _ T0.out Try.underlying51 rfl (infoBig' _) ?_))
        refine (up_any _ _).mono ?_
        rintro e w1 ⟨rfl, hb1⟩
        have hs1 := hb1.size
        have A1 := hid (show w1.heap[w.heap.size]? = some (.cells (bigA (a)) 51 (0, 0)) from below_at hb1 (by first | omega | (simp; done) | (simp; omega)) A0.out)
        have B1 := hid (show w1.heap[w.heap.size + 1]? = some (.cells (bigA (b)) 51 (0, 0)) from below_at hb1 (by first | omega | (simp; done) | (simp; omega)) B0.out)
        have R1 := hid (show w1.heap[w.heap.size + 1 + 1]? = some (.cells (bigA (0)) 51 (0, 0)) from below_at hb1 (by first | omega | (simp; done) | (simp; omega)) R0.out)
        have S1 := hid (show w1.heap[w.heap.size + 1 + 1 + 1]? = some (.cells (bigA (0)) 51 (0, 0)) from below_at hb1 (by first | omega | (simp; done) | (simp; omega)) S0.out)
        have Q1 := hid (show w1.heap[w.heap.size + 1 + 1 + 1 + 1]? = some (.cells (bigA (a / 2 ^ (j + 1) / b * 2 ^ (j + 1))) 51 (0, 0)) from below_at hb1 (by first | omega | (simp; done) | (simp; omega)) Q0.out)
        have T1 := hid (show w1.heap[w.heap.size + 1 + 1 + 1 + 1 + 1]? = some (.cells (bigA (r)) 51 (0, 0)) from below_at hb1 (by first | omega | (simp; done) | (simp; omega)) T0.out)
        have Bl1 : Below w.heap.size w w1 := Below.trans hB (hb1.mono (by first | omega | (simp; done) | (simp; omega)))
        clear hb1 A0 B0 R0 S0 Q0 T0 hB
        have ca : (w1.setRow (w.heap.size + 1 + 1 + 1 + 1 + 1) (bigA (2 * r))).cell? ⟨w.heap.size, j, none⟩ = some (.bool c) := by rw [HCB.out]; exact (blk_cell (setRow_ne (by omega) A1.out _) j).trans (bigA_get _ _ (by omega))
        obtain ⟨c0, cr⟩ : ∃ v, (w1.setRow (w.heap.size + 1 + 1 + 1 + 1 + 1) (bigA (2 * r))).cell? ⟨w.heap.size + 1 + 1 + 1 + 1 + 1, 0, none⟩ = some (.bool v) := ⟨_, (blk_cell (setRow_at T1.out _) 0).trans (bigA_get _ _ (by omega))⟩
        have fr := blk_free (setRow_at T1.out (bigA (2 * r)))
        have T2 := hid (show ((w1.setRow (w.heap.size + 1 + 1 + 1 + 1 + 1) (bigA (2 * r))).setCell ⟨w.heap.size + 1 + 1 + 1 + 1 + 1, 0, none⟩ (.bool c)).heap[w.heap.size + 1 + 1 + 1 + 1 + 1]? = some (.cells (bigA (2 * r + c.toNat)) 51 (0, 0)) from by
          have e := heap_setCell_same (w1.setRow (w.heap.size + 1 + 1 + 1 + 1 + 1) (bigA (2 * r))) (w.heap.size + 1 + 1 + 1 + 1 + 1) 0 _ _ (.bool c) (setRow_at T1.out _)
          rwa [bigA_set0] at e)
        have A2 := hid (show ((w1.setRow (w.heap.size + 1 + 1 + 1 + 1 + 1) (bigA (2 * r))).setCell ⟨w.heap.size + 1 + 1 + 1 + 1 + 1, 0, none⟩ (.bool c)).heap[w.heap.size]? = some (.cells (bigA (a)) 51 (0, 0)) from heap_set_ne (by dsimp only; omega) (setRow_ne (by omega) A1.out _))
        have B2 := hid (show ((w1.setRow (w.heap.size + 1 + 1 + 1 + 1 + 1) (bigA (2 * r))).setCell ⟨w.heap.size + 1 + 1 + 1 + 1 + 1, 0, none⟩ (.bool c)).heap[w.heap.size + 1]? = some (.cells (bigA (b)) 51 (0, 0)) from heap_set_ne (by dsimp only; omega) (setRow_ne (by omega) B1.out _))
        have R2 := hid (show ((w1.setRow (w.heap.size + 1 + 1 + 1 + 1 + 1) (bigA (2 * r))).setCell ⟨w.heap.size + 1 + 1 + 1 + 1 + 1, 0, none⟩ (.bool c)).heap[w.heap.size + 1 + 1]? = some (.cells (bigA (0)) 51 (0, 0)) from heap_set_ne (by dsimp only; omega) (setRow_ne (by omega) R1.out _))
        have S2 := hid (show ((w1.setRow (w.heap.size + 1 + 1 + 1 + 1 + 1) (bigA (2 * r))).setCell ⟨w.heap.size + 1 + 1 + 1 + 1 + 1, 0, none⟩ (.bool c)).heap[w.heap.size + 1 + 1 + 1]? = some (.cells (bigA (0)) 51 (0, 0)) from heap_set_ne (by dsimp only; omega) (setRow_ne (by omega) S1.out _))
        have Q2 := hid (show ((w1.setRow (w.heap.size + 1 + 1 + 1 + 1 + 1) (bigA (2 * r))).setCell ⟨w.heap.size + 1 + 1 + 1 + 1 + 1, 0, none⟩ (.bool c)).heap[w.heap.size + 1 + 1 + 1 + 1]? = some (.cells (bigA (a / 2 ^ (j + 1) / b * 2 ^ (j + 1))) 51 (0, 0)) from heap_set_ne (by dsimp only; omega) (setRow_ne (by omega) Q1.out _))
        go_wp2_with (first | (refine wpList_store_row rfl 51 (.tmp 7) (.tmp 14) rfl (w.heap.size + 1 + 1 + 1 + 1 + 1) (bigA (2 * r)) (by simp [Act.eval, Act.put]) (by simp [Act.eval, Act.put]) _ _ T1.out (infoBig' _) (by rw [bigA_size, bigA_size]) (bigA_one _) ?_) | (refine wpList_load_row rfl 51 (.tmp 7) rfl (w.heap.size + 1 + 1 + 1 + 1 + 1) (by simp [Act.eval, Act.put]) _ _ _ _ T2.out Try.underlying51 rfl (infoBig' _) ?_) | (refine wpList_load_row rfl 51 (.tmp 3) rfl (w.heap.size + 1) (by simp [Act.eval, Act.put]) _ _ _ _ B2.out Try.underlying51 rfl (infoBig' _) ?_))
        clear ca cr fr
        refine (HCMP.out _).mono ?_
        rintro e w3 ⟨rfl, hb3⟩
        have hs3 := hb3.size
        simp only [World.size_setCell, size_setRow] at hs3
        have A3 := hid (show w3.heap[w.heap.size]? = some (.cells (bigA (a)) 51 (0, 0)) from below_at hb3 (by first | omega | (simp; done) | (simp; omega)) A2.out)
        have B3 := hid (show w3.heap[w.heap.size + 1]? = some (.cells (bigA (b)) 51 (0, 0)) from below_at hb3 (by first | omega | (simp; done) | (simp; omega)) B2.out)
        have R3 := hid (show w3.heap[w.heap.size + 1 + 1]? = some (.cells (bigA (0)) 51 (0, 0)) from below_at hb3 (by first | omega | (simp; done) | (simp; omega)) R2.out)
        have S3 := hid (show w3.heap[w.heap.size + 1 + 1 + 1]? = some (.cells (bigA (0)) 51 (0, 0)) from below_at hb3 (by first | omega | (simp; done) | (simp; omega)) S2.out)
        have Q3 := hid (show w3.heap[w.heap.size + 1 + 1 + 1 + 1]? = some (.cells (bigA (a / 2 ^ (j + 1) / b * 2 ^ (j + 1))) 51 (0, 0)) from below_at hb3 (by first | omega | (simp; done) | (simp; omega)) Q2.out)
        have T3 := hid (show w3.heap[w.heap.size + 1 + 1 + 1 + 1 + 1]? = some (.cells (bigA (2 * r + c.toNat)) 51 (0, 0)) from below_at hb3 (by first | omega | (simp; done) | (simp; omega)) T2.out)
        have Bl3 : Below w.heap.size w w3 := Below.trans (a := w) (below_setRow_cell Bl1 (by omega) (by omega)) (hb3.mono (by first | omega | (simp; done) | (simp; omega)))
        clear hb3 A2 B2 R2 S2 Q2 T2 A1 B1 R1 S1 Q1 T1 Bl1
        go_wp2
        go_roundw
        case rel =>
          obtain ⟨e1, e2⟩ := HLOW.out (by have := HQ.out; omega)
          refine ⟨j, by omega, by go_num, Bl3, A3.out, B3.out, R3.out, S3.out, ?_, ?_⟩
          · rw [e1, show 2 * (a / 2 ^ (j + 1) / b) * 2 ^ j = a / 2 ^ (j + 1) / b * 2 ^ (j + 1) by rw [Nat.pow_succ, Nat.mul_comm 2, Nat.mul_assoc, Nat.mul_comm 2]]
            exact Q3.out
          · rw [e2]; exact T3.out
        case measure => first | (simp [intOf]; done) | (simp [intOf]; omega)
    · obtain rfl : k = 0 := by omega
      have q1 : a / 2 ^ 0 / b * 2 ^ 0 = a / b := by rw [Nat.pow_zero, Nat.div_one, Nat.mul_one]
      have q2 : a / 2 ^ 0 % b = a % b := by rw [Nat.pow_zero, Nat.div_one]
      rw [q1] at Q0
      rw [q2] at T0
      clear q1 q2
      go_wp2_with fail
      clear hb0 hb1
      refine region_copy2 28 29 6 7 4 5 (w.heap.size + 1 + 1 + 1 + 1) (w.heap.size + 1 + 1 + 1 + 1 + 1) (w.heap.size + 1 + 1) (w.heap.size + 1 + 1 + 1) (bigA (a / b)) (bigA (a % b)) (bigA 0) (bigA 0) _ (by kernel_rfl) rfl rfl rfl rfl rfl rfl rfl rfl rfl rfl rfl rfl (by kernel_rfl) (by kernel_rfl) (by kernel_rfl) (by kernel_rfl) (by kernel_rfl) (by kernel_rfl) (by kernel_rfl)
        rfl rfl rfl rfl eval_put (by omega) (by omega) (by omega) (by omega) (by omega) (fun _ => rfl) (fun _ => rfl) (fun _ _ => rfl) (fun _ _ => rfl) Q0.out T0.out R0.out S0.out (by omega) (by omega) Try.underlying51 rfl (infoBig' _) (infoBig' _) (by rw [bigA_size, bigA_size]) (by rw [bigA_size, bigA_size]) (bigA_one _) (bigA_one _) ?_
      intro a' ha'
      have S2 : (wr.drew.setRow (w.heap.size + 1 + 1) (bigA (a / b))).heap[w.heap.size + 1 + 1 + 1]? = some (.cells (bigA (0)) 51 (0, 0)) := setRow_ne (by omega) S0.out _
      have R2 : wr.drew.heap[w.heap.size + 1 + 1]? = some (.cells (bigA (0)) 51 (0, 0)) := R0.out
      have f1 := setRow_ne (g := w.heap.size + 1 + 1 + 1) (k := w.heap.size + 1 + 1) (by omega) (setRow_at R2 (bigA (a / b))) (bigA (a % b))
      have f2 := setRow_at S2 (bigA (a % b))
      have f3 : Below w.heap.size w ((wr.drew.setRow (w.heap.size + 1 + 1) (bigA (a / b))).setRow (w.heap.size + 1 + 1 + 1) (bigA (a % b))) := below_setRow (below_setRow hB.drew (by omega) _) (by omega) _
      have F1 := hid f1
      have F2 := hid f2
      clear f1 f2 S2 R2 A0 B0 R0 S0 Q0 T0
      rcases ha' with rfl | rfl
      all_goals
        go_wp2_with fail
        exact ret_rows rfl (w.heap.size + 1 + 1) (w.heap.size + 1 + 1 + 1) (bigA (a / b)) (bigA (a % b)) _ _ _ _ _ _ rfl rfl Try.underlying51 rfl (infoBig' _) Try.underlying51 rfl (infoBig' _) rfl F1.out F2.out ⟨rfl, f3⟩
end Go.Proofs.Ytbkopmgfkokmgaa
