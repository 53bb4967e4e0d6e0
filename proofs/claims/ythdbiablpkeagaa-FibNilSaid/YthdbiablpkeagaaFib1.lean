/- Contracts of chapter 8's calls on no heap, and of Insert, Min, Len on the zero heap; awake. -/
import Derived.Test.YthdbiablpkeagaaProg
import Derived.Test.YthdbiablpkeagaaCls
import Derived.OwnWalk
import Derived.Deep.DeepCutAuto
import Derived.Deep.CutBlock
import Derived.Maps.Range
import Derived.RegionTactic
import Derived.Deep.RegionLaw
import Derived.Deep.AppendLies
namespace Go.Proofs.Ythdbiablpkeagaa
open Go.RowKit
theorem wp_name {P : Program} {c : Code} {Q : Exit → Act → World → Prop} {a : Act} {w : World} (h : ∀ w2, w2 = w → c.wp P Q a w2) : c.wp P Q a w := h w rfl
/-- 'append', its equation at hand. -/
theorem wpList_append_eq {P : Program} {w : World} {ops : Array Oper} {rest : List Oper} {o : Oper} {a : Act} {Q : Exit → Act → World → Prop} {v' : Value} {w' : World} (hgd : o.guard = none) (s x : Operand) (t : TypeId)
    (ho : o.op = .call { callee := .builtin .append, args := #[s, x], argTypes := #[t, t] }) {v y : Value} (hs : a.eval s = v) (hx : a.eval x = y) (hr : (Builtin.append_ #[t, t] o.type #[v, y]).run P w = .ok v' w')
    (h : wpList P ops Q rest (a.put o.dst v') w') : wpList P ops Q (o :: rest) a w := by
  refine wpList_plain hgd fun K hK => ?_
  unfold Oper.wp execOp
  simp only [ho, resolve, invoke, builtin, Sem.run_bind, Sem.run_pure, Result.andThen_ok, List.map_toArray, List.map_cons, List.map_nil, hs, hx, hr]
  exact hK _ _ h
theorem step_append_eq {P : Program} {w : World} {ops : Array Oper} {o : Oper} {a : Act} {K : Act → World → Prop} {Q : Exit → Act → World → Prop} {E : Prop} {v' : Value} {w' : World} (hgd : o.guard = none) (s x : Operand) (t : TypeId)
    (ho : o.op = .call { callee := .builtin .append, args := #[s, x], argTypes := #[t, t] }) {v y : Value} (hs : a.eval s = v) (hx : a.eval x = y) (hr : (Builtin.append_ #[t, t] o.type #[v, y]).run P w = .ok v' w')
    (h : K (a.put o.dst v') w') : if Region.wanted o (yielded ops a.tmps) = true then Oper.wp P o a w K Q else E := by
  have hw : Region.wanted o (yielded ops a.tmps) = true := by simp [Region.wanted, hgd]
  rw [if_pos hw]
  unfold Oper.wp execOp
  simp only [ho, resolve, invoke, builtin, Sem.run_bind, Sem.run_pure, Result.andThen_ok, List.map_toArray, List.map_cons, List.map_nil, hs, hx, hr]
  exact h
/-- Three results, the second of them in a block that is known whole. -/
theorem results_row3 {P : Program} {fn : Func} {p u v : Tmp} {ty : TypeId} (h : fn.results = #[.tmp u, .cell p ty, .tmp v]) (tmps : Array Value) (w : World) (g : Nat) (t : TypeId) (cs : Array Value) (fr : Nat × Nat) (d : TypeDesc)
    (hp : tmps.getD p undef = .pointer (some ⟨g, 0, none⟩)) (hg : w.heap[g]? = some (.cells cs t fr))
    (hu : P.underlying ty = some d) (hd : (match d with | .struct _ | .array _ _ => true | _ => false) = true) (hi : (P.info? ty).map (·.size) = some cs.size) :
    (results fn tmps).run P w = .ok (.tuple #[tmps.getD u undef, .agg cs, tmps.getD v undef]) w := by
  have hp' : tmps[p]?.getD undef = .pointer (some ⟨g, 0, none⟩) := by simpa using hp
  simp only [results, h]
  simp [Sem.run_bind, Result.andThen, asAddr, hp', run_loadVar_row w g t ty cs fr d hg hu hd hi]
theorem ret_row3 {P : Program} {fn : Func} {R : Ending → World → Prop} {a : Act} {w : World} {p u v : Tmp} {ty : TypeId} (h : fn.results = #[.tmp u, .cell p ty, .tmp v]) (g : Nat) (cs : Array Value) (t : TypeId) (d : TypeDesc)
    (hp : a.tmps.getD p undef = .pointer (some ⟨g, 0, none⟩)) (hu : P.underlying ty = some d) (hd : (match d with | .struct _ | .array _ _ => true | _ => false) = true)
    (hi : (P.info? ty).map (·.size) = some cs.size) (hdf : a.defers = []) (hg : ∃ cs', w.heap[g]? = some (.cells cs' t (0, 0)) ∧ cs' = cs)
    (hR : R (.returned (.tuple #[a.tmps.getD u undef, .agg cs, a.tmps.getD v undef])) w) : bodyPost P fn R .ret a w := by
  obtain ⟨_, hg, rfl⟩ := hg
  exact bodyPost_ret (results_row3 h a.tmps w g t _ (0, 0) d hp hg hu hd hi) hdf hR
theorem infoK : (Try.prog.info? 33).map (·.size) = some 3 := by kernel_rfl
set_option maxHeartbeats 1000000 in
theorem minz (w : World) : Calls Try.prog 18 #[.pointer none] w fun e w' => e = .returned (.tuple #[.int .i64 0, .agg #[.int .u64 0, .int .u64 0, .int .i64 0], .int .i64 3]) ∧ Below w.heap.size w w' := by
  go_enter Try.func18, Try.ntmps18
  go_wp2
  refine ret_row3 rfl w.heap.size #[.int .u64 0, .int .u64 0, .int .i64 0] 33 _ rfl Try.underlying33 rfl infoK rfl (by apply Exists.intro; refine ⟨?_, ?_⟩; (focus ((repeat (first | (with_reducible assumption) | (with_reducible exact alloc_at _ _) | ((with_reducible apply alloc_at'); (simp; done)) | (with_reducible apply alloc_at_lt) | (with_reducible apply heap_drew_at) | (with_reducible apply heap_drewN_at) | (with_reducible apply heap_setCell_same) | ((with_reducible apply heap_set_ne); (first | omega | (dsimp only; omega) | (simp; done) | (simp; omega))) | (with_reducible apply setRow_at) | ((with_reducible apply setRow_ne); (first | omega | (dsimp only; omega) | (simp; done) | (simp; omega))))))); simp) ⟨rfl, (by repeat (first | with_reducible assumption | with_reducible exact Below.refl _ _ | with_reducible refine Below.drew ?_ | with_reducible refine below_drewN ?_ _ | with_reducible refine below_alloc ?_ _ | with_reducible refine Below.alloc ?_ (by first | omega | (simp; done) | (simp; omega)) _ | with_reducible refine Below.setCell ?_ (by first | omega | (simp; done) | (simp; omega)) _ | with_reducible refine below_setRow ?_ (by first | omega | (simp; done) | (simp; omega)) _))⟩
set_option maxHeartbeats 1000000 in
theorem popz (w : World) : Calls Try.prog 11 #[.pointer none] w fun e w' => e = .returned (.tuple #[.int .i64 0, .agg #[.int .u64 0, .int .u64 0, .int .i64 0], .int .i64 3]) ∧ Below w.heap.size w w' := by
  go_enter Try.func11, Try.ntmps11
  go_wp2_with fail
  refine (minz _).mono ?_
  rintro e w1 ⟨rfl, hb1⟩
  have hs1 := hb1.size
  simp only [World.size_alloc] at hs1
  have hz := below_at hb1 (n := w.heap.size) (by simp) (by (repeat (first | (with_reducible assumption) | (with_reducible exact alloc_at _ _) | ((with_reducible apply alloc_at'); (simp; done)) | (with_reducible apply alloc_at_lt) | (with_reducible apply heap_drew_at) | (with_reducible apply heap_drewN_at) | (with_reducible apply heap_setCell_same) | ((with_reducible apply heap_set_ne); (first | omega | (dsimp only; omega) | (simp; done) | (simp; omega))) | (with_reducible apply setRow_at) | ((with_reducible apply setRow_ne); (first | omega | (dsimp only; omega) | (simp; done) | (simp; omega))))))
  have B1 : Below w.heap.size w w1 := Below.trans (by repeat (first | with_reducible assumption | with_reducible exact Below.refl _ _ | with_reducible refine Below.drew ?_ | with_reducible refine below_drewN ?_ _ | with_reducible refine below_alloc ?_ _ | with_reducible refine Below.alloc ?_ (by first | omega | (simp; done) | (simp; omega)) _ | with_reducible refine Below.setCell ?_ (by first | omega | (simp; done) | (simp; omega)) _ | with_reducible refine below_setRow ?_ (by first | omega | (simp; done) | (simp; omega)) _)) (hb1.mono (by first | omega | (simp; done) | (simp; omega)))
  have hl1 : w.heap.size < w1.heap.size := by omega
  have z0 : w1.cell? ⟨w.heap.size, 0, none⟩ = some (.int .u64 0) := (blk_cell hz 0).trans rfl
  have z1 : w1.cell? ⟨w.heap.size, 1, none⟩ = some (.int .u64 0) := (blk_cell hz 1).trans rfl
  have z2 : w1.cell? ⟨w.heap.size, 2, none⟩ = some (.int .i64 0) := (blk_cell hz 2).trans rfl
  have zf := blk_free hz
  have HZ := hid hz
  clear hb1 hz
  go_wp2
  go_region
  all_goals
    go_wp2
    have hz := HZ.out
    refine ret_row3 rfl w.heap.size #[.int .u64 0, .int .u64 0, .int .i64 0] 33 _ rfl Try.underlying33 rfl infoK rfl (by apply Exists.intro; refine ⟨?_, ?_⟩; (focus ((repeat (first | (with_reducible assumption) | (with_reducible exact alloc_at _ _) | ((with_reducible apply alloc_at'); (simp; done)) | (with_reducible apply alloc_at_lt) | (with_reducible apply heap_drew_at) | (with_reducible apply heap_drewN_at) | (with_reducible apply heap_setCell_same) | ((with_reducible apply heap_set_ne); (first | omega | (dsimp only; omega) | (simp; done) | (simp; omega))) | (with_reducible apply setRow_at) | ((with_reducible apply setRow_ne); (first | omega | (dsimp only; omega) | (simp; done) | (simp; omega))))))); simp) ⟨rfl, (by repeat (first | with_reducible assumption | with_reducible exact Below.refl _ _ | with_reducible refine Below.drew ?_ | with_reducible refine below_drewN ?_ _ | with_reducible refine below_alloc ?_ _ | with_reducible refine Below.alloc ?_ (by first | omega | (simp; done) | (simp; omega)) _ | with_reducible refine Below.setCell ?_ (by first | omega | (simp; done) | (simp; omega)) _ | with_reducible refine below_setRow ?_ (by first | omega | (simp; done) | (simp; omega)) _))⟩
set_option maxHeartbeats 1000000 in
theorem getz (n : Int) (w : World) : Calls Try.prog 16 #[.pointer none, .int .i64 n] w fun e w' => e = .returned (.tuple #[.agg #[.int .u64 0, .int .u64 0, .int .i64 0], .int .i64 3]) ∧ Below w.heap.size w w' := by
  go_enter Try.func16, Try.ntmps16
  go_wp2
  refine ret_row2 rfl w.heap.size #[.int .u64 0, .int .u64 0, .int .i64 0] 33 _ rfl Try.underlying33 rfl infoK rfl (by apply Exists.intro; refine ⟨?_, ?_⟩; (focus ((repeat (first | (with_reducible assumption) | (with_reducible exact alloc_at _ _) | ((with_reducible apply alloc_at'); (simp; done)) | (with_reducible apply alloc_at_lt) | (with_reducible apply heap_drew_at) | (with_reducible apply heap_drewN_at) | (with_reducible apply heap_setCell_same) | ((with_reducible apply heap_set_ne); (first | omega | (dsimp only; omega) | (simp; done) | (simp; omega))) | (with_reducible apply setRow_at) | ((with_reducible apply setRow_ne); (first | omega | (dsimp only; omega) | (simp; done) | (simp; omega))))))); simp) ⟨rfl, (by repeat (first | with_reducible assumption | with_reducible exact Below.refl _ _ | with_reducible refine Below.drew ?_ | with_reducible refine below_drewN ?_ _ | with_reducible refine below_alloc ?_ _ | with_reducible refine Below.alloc ?_ (by first | omega | (simp; done) | (simp; omega)) _ | with_reducible refine Below.setCell ?_ (by first | omega | (simp; done) | (simp; omega)) _ | with_reducible refine below_setRow ?_ (by first | omega | (simp; done) | (simp; omega)) _))⟩
theorem insz (a b c : Int) (w : World) : Calls Try.prog 10 #[.pointer none, .agg #[.int .u64 a, .int .u64 b, .int .i64 c]] w fun e w' => e = .returned (.tuple #[.int .i64 0, .int .i64 10]) ∧ Below w.heap.size w w' := by
  go_enter Try.func10, Try.ntmps10
  go_wp2
  go_ret2
  exact ⟨rfl, (by repeat (first | with_reducible assumption | with_reducible exact Below.refl _ _ | with_reducible refine Below.drew ?_ | with_reducible refine below_drewN ?_ _ | with_reducible refine below_alloc ?_ _ | with_reducible refine Below.alloc ?_ (by first | omega | (simp; done) | (simp; omega)) _ | with_reducible refine Below.setCell ?_ (by first | omega | (simp; done) | (simp; omega)) _ | with_reducible refine below_setRow ?_ (by first | omega | (simp; done) | (simp; omega)) _))⟩
set_option maxRecDepth 20000 in
theorem meldz (v : Option Addr) (w : World) : Calls Try.prog 15 #[.pointer none, .pointer v] w fun e w' => e = .returned (.tuple #[.int .i64 0, .int .i64 10]) ∧ Below w.heap.size w w' := by
  go_enter Try.func15, Try.ntmps15
  go_wp2
  go_ret2
  exact ⟨rfl, (by repeat (first | with_reducible assumption | with_reducible exact Below.refl _ _ | with_reducible refine Below.drew ?_ | with_reducible refine below_drewN ?_ _ | with_reducible refine below_alloc ?_ _ | with_reducible refine Below.alloc ?_ (by first | omega | (simp; done) | (simp; omega)) _ | with_reducible refine Below.setCell ?_ (by first | omega | (simp; done) | (simp; omega)) _ | with_reducible refine below_setRow ?_ (by first | omega | (simp; done) | (simp; omega)) _))⟩
set_option maxRecDepth 20000 in
theorem meldz2 (a : Addr) (w : World) : Calls Try.prog 15 #[.pointer (some a), .pointer none] w fun e w' => e = .returned (.tuple #[.int .i64 0, .int .i64 10]) ∧ Below w.heap.size w w' := by
  go_enter Try.func15, Try.ntmps15
  go_wp2
  go_ret2
  exact ⟨rfl, (by repeat (first | with_reducible assumption | with_reducible exact Below.refl _ _ | with_reducible refine Below.drew ?_ | with_reducible refine below_drewN ?_ _ | with_reducible refine below_alloc ?_ _ | with_reducible refine Below.alloc ?_ (by first | omega | (simp; done) | (simp; omega)) _ | with_reducible refine Below.setCell ?_ (by first | omega | (simp; done) | (simp; omega)) _ | with_reducible refine below_setRow ?_ (by first | omega | (simp; done) | (simp; omega)) _))⟩
set_option maxRecDepth 20000 in
theorem decz (n a b c : Int) (w : World) : Calls Try.prog 17 #[.pointer none, .int .i64 n, .agg #[.int .u64 a, .int .u64 b, .int .i64 c]] w fun e w' => e = .returned (.int .i64 3) ∧ Below w.heap.size w w' := by
  go_enter Try.func17, Try.ntmps17
  go_wp2
  go_ret
  exact ⟨rfl, (by repeat (first | with_reducible assumption | with_reducible exact Below.refl _ _ | with_reducible refine Below.drew ?_ | with_reducible refine below_drewN ?_ _ | with_reducible refine below_alloc ?_ _ | with_reducible refine Below.alloc ?_ (by first | omega | (simp; done) | (simp; omega)) _ | with_reducible refine Below.setCell ?_ (by first | omega | (simp; done) | (simp; omega)) _ | with_reducible refine below_setRow ?_ (by first | omega | (simp; done) | (simp; omega)) _))⟩
theorem delz (n : Int) (w : World) : Calls Try.prog 22 #[.pointer none, .int .i64 n] w fun e w' => e = .returned (.int .i64 3) ∧ Below w.heap.size w w' := by
  go_enter Try.func22, Try.ntmps22
  go_wp2
  go_ret
  exact ⟨rfl, (by repeat (first | with_reducible assumption | with_reducible exact Below.refl _ _ | with_reducible refine Below.drew ?_ | with_reducible refine below_drewN ?_ _ | with_reducible refine below_alloc ?_ _ | with_reducible refine Below.alloc ?_ (by first | omega | (simp; done) | (simp; omega)) _ | with_reducible refine Below.setCell ?_ (by first | omega | (simp; done) | (simp; omega)) _ | with_reducible refine below_setRow ?_ (by first | omega | (simp; done) | (simp; omega)) _))⟩
theorem lenz (w : World) : Calls Try.prog 14 #[.pointer none] w fun e w' => e = .returned (.int .i64 0) ∧ Below w.heap.size w w' := by
  go_enter Try.func14, Try.ntmps14
  go_wp2
  go_ret
  exact ⟨rfl, (by repeat (first | with_reducible assumption | with_reducible exact Below.refl _ _ | with_reducible refine Below.drew ?_ | with_reducible refine below_drewN ?_ _ | with_reducible refine below_alloc ?_ _ | with_reducible refine Below.alloc ?_ (by first | omega | (simp; done) | (simp; omega)) _ | with_reducible refine Below.setCell ?_ (by first | omega | (simp; done) | (simp; omega)) _ | with_reducible refine below_setRow ?_ (by first | omega | (simp; done) | (simp; omega)) _))⟩
theorem newh (w : World) : Calls Try.prog 9 #[] w fun e w' => e = .returned (.pointer (some ⟨w.heap.size, 0, none⟩)) ∧ Below w.heap.size w w' ∧ w'.heap[w.heap.size]? = some (.cells #[.slice none 0 0, .int .i64 0, .int .i64 0] 66 (0, 0)) := by
  go_enter Try.func9, Try.ntmps9
  go_wp2
  go_ret
  exact ⟨rfl, (by repeat (first | with_reducible assumption | with_reducible exact Below.refl _ _ | with_reducible refine Below.drew ?_ | with_reducible refine below_drewN ?_ _ | with_reducible refine below_alloc ?_ _ | with_reducible refine Below.alloc ?_ (by first | omega | (simp; done) | (simp; omega)) _ | with_reducible refine Below.setCell ?_ (by first | omega | (simp; done) | (simp; omega)) _ | with_reducible refine below_setRow ?_ (by first | omega | (simp; done) | (simp; omega)) _)), (by (repeat (first | (with_reducible assumption) | (with_reducible exact alloc_at _ _) | ((with_reducible apply alloc_at'); (simp; done)) | (with_reducible apply alloc_at_lt) | (with_reducible apply heap_drew_at) | (with_reducible apply heap_drewN_at) | (with_reducible apply heap_setCell_same) | ((with_reducible apply heap_set_ne); (first | omega | (dsimp only; omega) | (simp; done) | (simp; omega))) | (with_reducible apply setRow_at) | ((with_reducible apply setRow_ne); (first | omega | (dsimp only; omega) | (simp; done) | (simp; omega))))))⟩
/-- The zero heap refuses a key that is no fraction. -/
theorem ins0_form (H : Nat) (a c : Int) (w : World) (hH : w.heap[H]? = some (.cells #[.slice none 0 0, .int .i64 0, .int .i64 0] 66 (0, 0))) :
    Calls Try.prog 10 #[.pointer (some ⟨H, 0, none⟩), .agg #[.int .u64 a, .int .u64 0, .int .i64 c]] w fun e w' => e = .returned (.tuple #[.int .i64 0, .int .i64 4]) ∧ Below w.heap.size w w' := by
  clear hH
  go_enter Try.func10, Try.ntmps10
  go_wp2
  go_ret2
  exact ⟨rfl, (by repeat (first | with_reducible assumption | with_reducible exact Below.refl _ _ | with_reducible refine Below.drew ?_ | with_reducible refine below_drewN ?_ _ | with_reducible refine below_alloc ?_ _ | with_reducible refine Below.alloc ?_ (by first | omega | (simp; done) | (simp; omega)) _ | with_reducible refine Below.setCell ?_ (by first | omega | (simp; done) | (simp; omega)) _ | with_reducible refine below_setRow ?_ (by first | omega | (simp; done) | (simp; omega)) _))⟩
/-- An entry's cells. -/
def entryC (a b c : Int) (mk : Bool) : List Value := [.int .u64 a, .int .u64 b, .int .i64 c, .int .i64 (-1), .int .i64 (-1), .int .i64 0, .int .i64 0, .int .i64 0, .bool mk, .bool true]
theorem infoEn : (Try.prog.info? 69).map (fun i => (i.zero, i.size, i.bytes)) = some (some (.agg #[.int .u64 0, .int .u64 0, .int .i64 0, .int .i64 0, .int .i64 0, .int .i64 0, .int .i64 0, .int .i64 0, .bool false, .bool false]), 10, 72) := by kernel_rfl
/-- One entry is appended to the nil slice. -/
theorem app_entry (W : World) (ty : TypeId) (a b c : Int) (A : Addr) (hA : ∀ j u, (entryC a b c false)[j]? = some u → W.cell? (A.add j) = some u) :
    ∃ g cap cur w', (Builtin.append_ #[64, 64] ty #[.slice none 0 0, .slice (some A) 1 1]).run Try.prog W = .ok (.slice (some ⟨g, 0, none⟩) 1 cap) w' ∧
      W.heap.size ≤ g ∧ w'.heap[g]? = some (.cells cur 69 (0, 0)) ∧ 1 ≤ cap ∧ cur.toList.take 10 = entryC a b c false ∧ W.grownBy w' none := by
  obtain ⟨i0, hi, hz0, hz1, hz2⟩ := info_parts infoEn
  obtain ⟨v', w', h1, h2, h3, -⟩ := run_append_own (P := Try.prog) W W.heap.size 64 ty 69 i0 _ 10 72 Try.underlying64 hi hz0 hz1 hz2 rfl (by omega) (.slice none 0 0) 0 [] (World.ownsRow_nil _ _ _ _)
    A 1 1 (entryC a b c false) rfl hA (by intro u hu; simp [entryC] at hu; rcases hu with rfl | rfl | rfl | rfl | rfl | rfl | rfl | rfl | rfl | rfl <;> rfl) (by unfold maxLen; omega) (by omega) (Nat.le_refl _)
  obtain ⟨-, ⟨-, h0⟩ | ⟨g, cap, cur, rfl, hg, hh, hc, -, -, ht⟩⟩ := h2
  · omega
  · exact ⟨g, cap, cur, w', h1, hg, hh, by omega, by simpa using ht, h3⟩
theorem cell_set_ne {w : World} {p q : Addr} {x v : Value} (e : p ≠ q) (h : w.cell? q = some v) : (w.setCell p x).cell? q = some v := (World.cell?_setCell_other w p q x e).trans h
theorem cell_drew {w : World} {q : Addr} {v : Value} (h : w.cell? q = some v) : w.drew.cell? q = some v := h
theorem take_at {cur : Array Value} {l : List Value} {i : Nat} {v : Value} (ht : cur.toList.take 10 = l) (hi : i < 10) (hv : l[i]? = some v) : cur[i]? = some v := by
  rw [← ht, List.getElem?_take] at hv
  simpa [hi] using hv
set_option maxRecDepth 20000 in
set_option maxHeartbeats 4000000 in
/-- The first entry is made a root. -/
theorem root0 (H g cap : Nat) (m a b c : Int) (cur : Array Value) (w : World) (hH : w.heap[H]? = some (.cells #[.slice (some ⟨g, 0, none⟩) 1 cap, .int .i64 0, .int .i64 m] 66 (0, 0)))
    (hg : w.heap[g]? = some (.cells cur 69 (0, 0))) (ht : cur.toList.take 10 = entryC a b c false) (hne : H ≠ g) :
    Calls Try.prog 23 #[.pointer (some ⟨H, 0, none⟩), .int .i64 0] w fun e w' => e = .returned (.tuple #[]) ∧
      w'.heap[H]? = some (.cells #[.slice (some ⟨g, 0, none⟩) 1 cap, .int .i64 1, .int .i64 m] 66 (0, 0)) ∧ w'.cell? ⟨g, 0, none⟩ = some (.int .u64 a) ∧ w'.cell? ⟨g, 1, none⟩ = some (.int .u64 b) ∧ w'.cell? ⟨g, 2, none⟩ = some (.int .i64 c) ∧
      w'.heap.size = w.heap.size ∧ w'.os = w.os ∧ w'.tape = w.tape ∧ w'.output = w.output ∧ ∀ k, k ≠ H → k ≠ g → w'.heap[k]? = w.heap[k]? := by
  have c0 : w.cell? ⟨H, 0, none⟩ = some (.slice (some ⟨g, 0, none⟩) 1 cap) := (blk_cell hH 0).trans rfl
  have c1 : w.cell? ⟨H, 1, none⟩ = some (.int .i64 0) := (blk_cell hH 1).trans rfl
  have cf := blk_free hH
  have d0 : w.cell? ⟨g, 0, none⟩ = some (.int .u64 a) := (blk_cell hg 0).trans (take_at ht (by omega) rfl)
  have d1 : w.cell? ⟨g, 1, none⟩ = some (.int .u64 b) := (blk_cell hg 1).trans (take_at ht (by omega) rfl)
  have d2 : w.cell? ⟨g, 2, none⟩ = some (.int .i64 c) := (blk_cell hg 2).trans (take_at ht (by omega) rfl)
  have d3 : w.cell? ⟨g, 3, none⟩ = some (.int .i64 (-1)) := (blk_cell hg 3).trans (take_at ht (by omega) rfl)
  have d5 : w.cell? ⟨g, 5, none⟩ = some (.int .i64 0) := (blk_cell hg 5).trans (take_at ht (by omega) rfl)
  have d6 : w.cell? ⟨g, 6, none⟩ = some (.int .i64 0) := (blk_cell hg 6).trans (take_at ht (by omega) rfl)
  have d8 : w.cell? ⟨g, 8, none⟩ = some (.bool false) := (blk_cell hg 8).trans (take_at ht (by omega) rfl)
  have df := blk_free hg
  have hne' : g ≠ H := Ne.symm hne
  have HH := hid hH
  clear hH hg ht
  go_enter Try.func23, Try.ntmps23
  go_wp2
  go_region_held3 (fun w' => w'.cell? ⟨H, 0, none⟩ = some (.slice (some ⟨g, 0, none⟩) 1 cap)) (go_keep) (fail)
  all_goals
    go_wp2
    have hH := HH.out
    refine bodyPost_ret (results_none rfl _ _ _) rfl ⟨rfl, at_of (by apply Exists.intro; refine ⟨?_, ?_⟩; (focus ((repeat (first | (with_reducible assumption) | (with_reducible exact alloc_at _ _) | ((with_reducible apply alloc_at'); (simp; done)) | (with_reducible apply alloc_at_lt) | (with_reducible apply heap_drew_at) | (with_reducible apply heap_drewN_at) | (with_reducible apply heap_setCell_same) | ((with_reducible apply heap_set_ne); (first | omega | (dsimp only; omega) | (simp; done) | (simp; omega))) | (with_reducible apply setRow_at) | ((with_reducible apply setRow_ne); (first | omega | (dsimp only; omega) | (simp; done) | (simp; omega))))))); simp), ?_, ?_, ?_, by simp, rfl, rfl, rfl, fun k h1 h2 => ?_⟩
    · exact cell_drew (cell_set_ne (by simp [hne]) (cell_set_ne (by simp) (cell_set_ne (by simp) (cell_set_ne (by simp) (cell_set_ne (by simp) d0)))))
    · exact cell_drew (cell_set_ne (by simp [hne]) (cell_set_ne (by simp) (cell_set_ne (by simp) (cell_set_ne (by simp) (cell_set_ne (by simp) d1)))))
    · exact cell_drew (cell_set_ne (by simp [hne]) (cell_set_ne (by simp) (cell_set_ne (by simp) (cell_set_ne (by simp) (cell_set_ne (by simp) d2)))))
    · rw [heap_drew, heap_setCell_other _ _ _ _ h1, heap_setCell_other _ _ _ _ h2, heap_setCell_other _ _ _ _ h2, heap_setCell_other _ _ _ _ h2, heap_setCell_other _ _ _ _ h2]
theorem keep_h {w' : World} {H p : Nat} {a b c : Int} {t t' : TypeId} (h1 : w'.heap[H]? = some (.cells #[.slice none 0 0, .int .i64 0, .int .i64 0] t (0, 0))) (h2 : w'.heap[p]? = some (.cells #[.int .u64 a, .int .u64 b, .int .i64 c] t' (0, 0))) :
    w'.heap[H]? = some (.cells #[.slice none 0 0, .int .i64 0, .int .i64 0] t (0, 0)) ∧ w'.heap[p]? = some (.cells #[.int .u64 a, .int .u64 b, .int .i64 c] t' (0, 0)) ∧ w'.cell? ⟨H, 0, none⟩ = some (.slice none 0 0) ∧ w'.frozen? ⟨H, 0, none⟩ = false ∧ w'.cell? ⟨p, 0, none⟩ = some (.int .u64 a) ∧ w'.cell? ⟨p, 1, none⟩ = some (.int .u64 b) ∧ w'.cell? ⟨p, 2, none⟩ = some (.int .i64 c) :=
  ⟨h1, h2, (blk_cell h1 0).trans rfl, blk_free h1 0, (blk_cell h2 0).trans rfl, (blk_cell h2 1).trans rfl, (blk_cell h2 2).trans rfl⟩
set_option maxRecDepth 20000 in
set_option maxHeartbeats 4000000 in
theorem ins0_ok (H : Nat) (a b c : Int) (w : World) (hb0 : 0 < b) (hb1 : b ≤ 18446744073709551615) (hH : w.heap[H]? = some (.cells #[.slice none 0 0, .int .i64 0, .int .i64 0] 66 (0, 0))) :
    Calls Try.prog 10 #[.pointer (some ⟨H, 0, none⟩), .agg #[.int .u64 a, .int .u64 b, .int .i64 c]] w fun e w' => e = .returned (.tuple #[.int .i64 0, .int .i64 0]) ∧ w.grownBy w' (some H) ∧
      ∃ g cap, w'.heap[H]? = some (.cells #[.slice (some ⟨g, 0, none⟩) 1 cap, .int .i64 1, .int .i64 1] 66 (0, 0)) ∧ w.heap.size ≤ g ∧ g < w'.heap.size ∧ 1 ≤ cap ∧
        w'.cell? ⟨g, 0, none⟩ = some (.int .u64 a) ∧ w'.cell? ⟨g, 1, none⟩ = some (.int .u64 b) ∧ w'.cell? ⟨g, 2, none⟩ = some (.int .i64 c) := by
  have hne : (b == 0) = false := by simp; omega
  have hlH := lt_of_at hH
  have c0 : w.cell? ⟨H, 0, none⟩ = some (.slice none 0 0) := (blk_cell hH 0).trans rfl
  have c1 : w.cell? ⟨H, 1, none⟩ = some (.int .i64 0) := (blk_cell hH 1).trans rfl
  have c2 : w.cell? ⟨H, 2, none⟩ = some (.int .i64 0) := (blk_cell hH 2).trans rfl
  have cf := blk_free hH
  go_enter Try.func10, Try.ntmps10
  go_upto_region 8 with fail
  refine wp_name ?_
  intro w2 hw2
  have X2 : w2.heap[w.heap.size]? = some (.cells #[.int .u64 a, .int .u64 b, .int .i64 c] 33 (0, 0)) := by rw [hw2]; exact (by (repeat (first | (with_reducible assumption) | (with_reducible exact alloc_at _ _) | ((with_reducible apply alloc_at'); (simp; done)) | (with_reducible apply alloc_at_lt) | (with_reducible apply heap_drew_at) | (with_reducible apply heap_drewN_at) | (with_reducible apply heap_setCell_same) | ((with_reducible apply heap_set_ne); (first | omega | (dsimp only; omega) | (simp; done) | (simp; omega))) | (with_reducible apply setRow_at) | ((with_reducible apply setRow_ne); (first | omega | (dsimp only; omega) | (simp; done) | (simp; omega))))))
  have H2 : w2.heap[H]? = some (.cells #[.slice none 0 0, .int .i64 0, .int .i64 0] 66 (0, 0)) := by rw [hw2]; exact (by (repeat (first | (with_reducible assumption) | (with_reducible exact alloc_at _ _) | ((with_reducible apply alloc_at'); (simp; done)) | (with_reducible apply alloc_at_lt) | (with_reducible apply heap_drew_at) | (with_reducible apply heap_drewN_at) | (with_reducible apply heap_setCell_same) | ((with_reducible apply heap_set_ne); (first | omega | (dsimp only; omega) | (simp; done) | (simp; omega))) | (with_reducible apply setRow_at) | ((with_reducible apply setRow_ne); (first | omega | (dsimp only; omega) | (simp; done) | (simp; omega))))))
  have B2 : Below w.heap.size w w2 := by rw [hw2]; exact (by repeat (first | with_reducible assumption | with_reducible exact Below.refl _ _ | with_reducible refine Below.drew ?_ | with_reducible refine below_drewN ?_ _ | with_reducible refine below_alloc ?_ _ | with_reducible refine Below.alloc ?_ (by first | omega | (simp; done) | (simp; omega)) _ | with_reducible refine Below.setCell ?_ (by first | omega | (simp; done) | (simp; omega)) _ | with_reducible refine below_setRow ?_ (by first | omega | (simp; done) | (simp; omega)) _))
  have s2 := lt_of_at X2
  have sH := lt_of_at H2
  clear hw2 c0 c1 c2 cf
  obtain ⟨g, cap, cur, w4, happ, hgs, hgr, hcap, ht, hG4⟩ := app_entry (w2.alloc (.cells #[.int .u64 a, .int .u64 b, .int .i64 c, .int .i64 (-1), .int .i64 (-1), .int .i64 0, .int .i64 0, .int .i64 0, .bool false, .bool true] 69)).drew 64 a b c ⟨w2.heap.size, 0, none⟩ (World.news_of_block (heap_drew_at (alloc_at w2 _)))
  have hgs' : w2.heap.size + 1 ≤ g := by simpa using hgs
  have H4 : w4.heap[H]? = some (.cells #[.slice none 0 0, .int .i64 0, .int .i64 0] 66 (0, 0)) := (hG4.block H (by simp; omega) (by simp)).trans (heap_drew_at (alloc_at_lt H2 _))
  have G4 : w.grownBy w4 (some H) := by
    have h1 : w.grownBy w2 (some H) := ⟨B2.os, B2.tape, B2.output, B2.size, fun k hk _ => B2.block k hk⟩
    have h2 := h1.trans (World.grownBy_alloc w2 (.cells #[.int .u64 a, .int .u64 b, .int .i64 c, .int .i64 (-1), .int .i64 (-1), .int .i64 0, .int .i64 0, .int .i64 0, .bool false, .bool true] 69) (some H))
    have h3 : w.grownBy (w2.alloc (.cells #[.int .u64 a, .int .u64 b, .int .i64 c, .int .i64 (-1), .int .i64 (-1), .int .i64 0, .int .i64 0, .int .i64 0, .bool false, .bool true] 69)).drew (some H) := ⟨h2.os, h2.tape, h2.output, h2.size, h2.block⟩
    exact h3.andThen hG4 (fun j e => by cases e)
  have d0 : w4.cell? ⟨H, 0, none⟩ = some (.slice none 0 0) := (blk_cell H4 0).trans rfl
  have df := blk_free H4
  have c0 : w2.cell? ⟨H, 0, none⟩ = some (.slice none 0 0) := (blk_cell H2 0).trans rfl
  have cf := blk_free H2
  have x0 : w2.cell? ⟨w.heap.size, 0, none⟩ = some (.int .u64 a) := (blk_cell X2 0).trans rfl
  have x1 : w2.cell? ⟨w.heap.size, 1, none⟩ = some (.int .u64 b) := (blk_cell X2 1).trans rfl
  have x2 : w2.cell? ⟨w.heap.size, 2, none⟩ = some (.int .i64 c) := (blk_cell X2 2).trans rfl
  have HAPP := hid happ
  clear happ
  go_region_law (refine step_append_eq rfl (.tmp 31) (.tmp 34) 64 rfl (v := .slice none 0 0) (y := .slice (some ⟨w2.heap.size, 0, none⟩) 1 1) (by simp [Act.eval, Act.put]) (by simp [Act.eval, Act.put]) HAPP.out ?_)
  all_goals
    have hBsz := B2.size
    have hneg : H ≠ g := by omega
    have hneg' : g ≠ H := by omega
    go_wp2_with fail
    refine (root0 H g cap 0 a b c cur _ (at_of (by refine ⟨_, heap_setCell_same _ _ _ _ _ _ H4, ?_⟩; simp)) (heap_set_ne hneg' hgr) ht hneg).mono ?_
    rintro e w6 ⟨rfl, hH6, k0, k1, k2, hsz, ho, htp, hou, hoth⟩
    simp only [World.size_setCell] at hsz
    have m2 : w6.cell? ⟨H, 2, none⟩ = some (.int .i64 0) := (blk_cell hH6 2).trans rfl
    have mf := blk_free hH6
    have hgl := lt_of_at hgr
    have hG4s := G4.size
    go_wp2
    go_ret2
    refine ⟨rfl, ⟨?_, ?_, ?_, by simp; omega, fun k hk hkn => ?_⟩, g, cap, at_of (by apply Exists.intro; refine ⟨?_, ?_⟩; (focus ((repeat (first | (with_reducible assumption) | (with_reducible exact alloc_at _ _) | ((with_reducible apply alloc_at'); (simp; done)) | (with_reducible apply alloc_at_lt) | (with_reducible apply heap_drew_at) | (with_reducible apply heap_drewN_at) | (with_reducible apply heap_setCell_same) | ((with_reducible apply heap_set_ne); (first | omega | (dsimp only; omega) | (simp; done) | (simp; omega))) | (with_reducible apply setRow_at) | ((with_reducible apply setRow_ne); (first | omega | (dsimp only; omega) | (simp; done) | (simp; omega))))))); simp), by omega, by simp; omega, hcap, ?_, ?_, ?_⟩
    · exact ho.trans G4.os
    · exact htp.trans G4.tape
    · exact hou.trans G4.output
    · have hkH : k ≠ H := fun e => hkn (by rw [e])
      rw [heap_setCell_other _ _ _ _ hkH, hoth k hkH (by omega), heap_setCell_other _ _ _ _ hkH]
      exact G4.block k hk hkn
    · exact cell_set_ne (by simp [show H ≠ g by omega]) k0
    · exact cell_set_ne (by simp [show H ≠ g by omega]) k1
    · exact cell_set_ne (by simp [show H ≠ g by omega]) k2
end Go.Proofs.Ythdbiablpkeagaa
