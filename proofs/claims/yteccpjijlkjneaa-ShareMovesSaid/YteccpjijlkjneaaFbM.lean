/- Chapter 8's heap in memory: the heap's block, the row of its entries; less, join, root, under. -/
import Derived.Test.YteccpjijlkjneaaProg
import Derived.Test.YteccpjijlkjneaaFbD
import Derived.Test.YteccpjijlkjneaaCls
import Derived.OwnWalk
import Derived.Maps.Range
import Derived.RegionTactic
import Derived.Deep.RegionHeld3
import Derived.Deep.CutBlock
import Derived.Laws.OwnMore
import Derived.IntWalk
namespace Go.Proofs.Yteccpjijlkjneaa
open Go.RowKit
/-- What a call may turn: the blocks of F, and what it makes. -/
structure Tur (F : Nat → Prop) (w w' : World) : Prop where
  os : w'.os = w.os
  tape : w'.tape = w.tape
  output : w'.output = w.output
  size : w.heap.size ≤ w'.heap.size
  kept : ∀ k, k < w.heap.size → ¬ F k → w'.heap[k]? = w.heap[k]?
theorem Tur.refl (F : Nat → Prop) (w : World) : Tur F w w := ⟨rfl, rfl, rfl, Nat.le_refl _, fun _ _ _ => rfl⟩
theorem Tur.trans {F G : Nat → Prop} {a b c : World} (h : Tur F a b) (k : Tur G b c) (hFG : ∀ i, G i → F i ∨ a.heap.size ≤ i) : Tur F a c :=
  ⟨k.os.trans h.os, k.tape.trans h.tape, k.output.trans h.output, Nat.le_trans h.size k.size, fun i hi hn => (k.kept i (Nat.lt_of_lt_of_le hi h.size) (fun hg => by
    rcases hFG i hg with h1 | h1
    · exact hn h1
    · omega)).trans (h.kept i hi hn)⟩
theorem Tur.then {F : Nat → Prop} {a b c : World} (h : Tur F a b) (k : Tur F b c) : Tur F a c := h.trans k (fun _ h => .inl h)
theorem Tur.of_below {F : Nat → Prop} {w w' : World} (h : Below w.heap.size w w') : Tur F w w' := ⟨h.os, h.tape, h.output, h.size, fun k hk _ => h.block k hk⟩
theorem Tur.of_grown {F : Nat → Prop} {w w' : World} {r : Option Nat} (h : w.grownBy w' r) (hr : ∀ g, r = some g → F g ∨ w.heap.size ≤ g) : Tur F w w' :=
  ⟨h.os, h.tape, h.output, h.size, fun k hk hn => h.block k hk (fun e => by
    rcases hr k e.symm with h1 | h1
    · exact hn h1
    · omega)⟩
theorem Tur.below {F : Nat → Prop} {w w' : World} {B : Nat} (h : Tur F w w') (hB : B ≤ w.heap.size) (hF : ∀ k, F k → B ≤ k) : Below B w w' :=
  ⟨h.os, h.tape, h.output, h.size, fun k hk => h.kept k (by omega) (fun e => by have := hF k e; omega)⟩
theorem Tur.set {F : Nat → Prop} {w : World} {p : Addr} (v : Value) (h : F p.block ∨ w.heap.size ≤ p.block) : Tur F w (w.setCell p v) :=
  ⟨rfl, rfl, rfl, by simp, fun k hk hn => heap_setCell_other w p k v (fun e => by
    subst e
    rcases h with h | h
    · exact hn h
    · omega)⟩
theorem Tur.mono {F G : Nat → Prop} {w w' : World} (h : Tur F w w') (hFG : ∀ k, F k → G k ∨ w.heap.size ≤ k) : Tur G w w' :=
  ⟨h.os, h.tape, h.output, h.size, fun k hk hn => h.kept k hk (fun e => by rcases hFG k e with h1 | h1; exact hn h1; omega)⟩
/-- An entry's cells. -/
def cellH (s : Hp) (i : Nat) : Nat → Value
  | 0 => .int .u64 (s.key i).1
  | 1 => .int .u64 (s.key i).2.1
  | 2 => .int .i64 (s.key i).2.2
  | 3 => .int .i64 (s.par i)
  | 4 => .int .i64 (s.ch i)
  | 5 => .int .i64 (s.lf i)
  | 6 => .int .i64 (s.rt i)
  | 7 => .int .i64 (s.dg i)
  | 8 => .bool (s.mr i)
  | _ => .bool (s.th i)
def flatH (s : Hp) : List Value := (List.range (s.m * 10)).map (fun j => cellH s (j / 10) (j % 10))
theorem flatH_length (s : Hp) : (flatH s).length = s.m * 10 := by simp [flatH]
theorem flatH_at (s : Hp) {i c : Nat} (hi : i < s.m) (hc : c < 10) : (flatH s)[i * 10 + c]? = some (cellH s i c) := by
  unfold flatH
  rw [List.getElem?_map, List.getElem?_range (by omega)]
  show some (cellH s ((i * 10 + c) / 10) ((i * 10 + c) % 10)) = _
  rw [show (i * 10 + c) / 10 = i by omega, show (i * 10 + c) % 10 = c by omega]
theorem cellH_one (s : Hp) (i c : Nat) : (cellH s i c).oneCell' = true := by unfold cellH; split <;> rfl
theorem flatH_one (s : Hp) : ∀ u ∈ flatH s, u.oneCell' = true := by
  intro u hu
  obtain ⟨j, -, rfl⟩ := List.mem_map.1 hu
  exact cellH_one _ _ _
/-- One cell is changed. -/
def Upd (s : Hp) (x c : Nat) (v : Value) (s' : Hp) : Prop := s'.m = s.m ∧ ∀ i d, d < 10 → cellH s' i d = if i = x ∧ d = c then v else cellH s i d
theorem flatH_set {s s' : Hp} {x c : Nat} {v : Value} (h : Upd s x c v s') (_hx : x < s.m) (hc : c < 10) : (flatH s).set (x * 10 + c) v = flatH s' := by
  refine List.ext_getElem? fun j => ?_
  by_cases hj : j < s.m * 10
  · have e' : (flatH s')[j]? = some (cellH s' (j / 10) (j % 10)) := by
      have := flatH_at s' (i := j / 10) (c := j % 10) (by rw [h.1]; omega) (by omega)
      rw [show j / 10 * 10 + j % 10 = j by omega] at this
      exact this
    have e : (flatH s)[j]? = some (cellH s (j / 10) (j % 10)) := by
      have := flatH_at s (i := j / 10) (c := j % 10) (by omega) (by omega)
      rw [show j / 10 * 10 + j % 10 = j by omega] at this
      exact this
    rw [e', h.2 _ _ (by omega), List.getElem?_set]
    by_cases q : x * 10 + c = j
    · rw [if_pos q, if_pos (by rw [flatH_length]; omega), if_pos (by omega)]
    · rw [if_neg q, if_neg (by omega), e]
  · rw [List.getElem?_eq_none (by rw [List.length_set, flatH_length]; omega), List.getElem?_eq_none (by rw [flatH_length, h.1]; omega)]
theorem upd_par (s : Hp) (x : Nat) (z : Int) : Upd s x 3 (.int .i64 z) { s with par := up s.par x z } := ⟨rfl, fun i d hd => by
  match d, hd with
  | 0, _ | 1, _ | 2, _ | 3, _ | 4, _ | 5, _ | 6, _ | 7, _ | 8, _ | 9, _ => by_cases e : i = x <;> simp [cellH, up, e]⟩
theorem upd_ch (s : Hp) (x : Nat) (z : Int) : Upd s x 4 (.int .i64 z) { s with ch := up s.ch x z } := ⟨rfl, fun i d hd => by
  match d, hd with
  | 0, _ | 1, _ | 2, _ | 3, _ | 4, _ | 5, _ | 6, _ | 7, _ | 8, _ | 9, _ => by_cases e : i = x <;> simp [cellH, up, e]⟩
theorem upd_lf (s : Hp) (x : Nat) (z : Int) : Upd s x 5 (.int .i64 z) { s with lf := up s.lf x z } := ⟨rfl, fun i d hd => by
  match d, hd with
  | 0, _ | 1, _ | 2, _ | 3, _ | 4, _ | 5, _ | 6, _ | 7, _ | 8, _ | 9, _ => by_cases e : i = x <;> simp [cellH, up, e]⟩
theorem upd_rt (s : Hp) (x : Nat) (z : Int) : Upd s x 6 (.int .i64 z) { s with rt := up s.rt x z } := ⟨rfl, fun i d hd => by
  match d, hd with
  | 0, _ | 1, _ | 2, _ | 3, _ | 4, _ | 5, _ | 6, _ | 7, _ | 8, _ | 9, _ => by_cases e : i = x <;> simp [cellH, up, e]⟩
theorem upd_dg (s : Hp) (x : Nat) (z : Int) : Upd s x 7 (.int .i64 z) { s with dg := up s.dg x z } := ⟨rfl, fun i d hd => by
  match d, hd with
  | 0, _ | 1, _ | 2, _ | 3, _ | 4, _ | 5, _ | 6, _ | 7, _ | 8, _ | 9, _ => by_cases e : i = x <;> simp [cellH, up, e]⟩
theorem upd_mr (s : Hp) (x : Nat) (z : Bool) : Upd s x 8 (.bool z) { s with mr := up s.mr x z } := ⟨rfl, fun i d hd => by
  match d, hd with
  | 0, _ | 1, _ | 2, _ | 3, _ | 4, _ | 5, _ | 6, _ | 7, _ | 8, _ | 9, _ => by_cases e : i = x <;> simp [cellH, up, e]⟩
/-- The heap at block H, its entries at block g. -/
structure HeapG (B : Nat) (w : World) (H g cap : Nat) (s : Hp) (least n : Int) : Prop where
  hB : B ≤ H
  blk : w.heap[H]? = some (.cells #[.slice (some ⟨g, 0, none⟩) s.m cap, .int .i64 least, .int .i64 n] 78 (0, 0))
  row : w.ownsRow B 82 10 (.slice (some ⟨g, 0, none⟩) s.m cap) s.m (flatH s)
def FootG (H g k : Nat) : Prop := k = H ∨ k = g
variable {B H g cap : Nat} {w w' : World} {s s' : Hp} {least n : Int}
theorem HeapG.block (h : HeapG B w H g cap s least n) : ∃ cur, w.heap[g]? = some (.cells cur 82 (0, 0)) ∧ cur.toList.take (s.m * 10) = flatH s ∧ B ≤ g := by
  obtain ⟨-, ⟨h3, -⟩ | ⟨g', cap', cur, h3, hg, hh, -, -, -, ht⟩⟩ := h.row
  · cases h3
  · cases h3
    exact ⟨cur, hh, ht, hg⟩
theorem HeapG.ne (h : HeapG B w H g cap s least n) : g ≠ H := fun e => by
  obtain ⟨cur, hh, -⟩ := h.block
  rw [e, h.blk] at hh
  injection hh with hh
  injection hh with _ h5
  exact absurd h5 (by decide)
theorem HeapG.ltH (h : HeapG B w H g cap s least n) : H < w.heap.size := lt_of_at h.blk
theorem HeapG.ltg (h : HeapG B w H g cap s least n) : g < w.heap.size := by obtain ⟨cur, hh, -⟩ := h.block; exact lt_of_at hh
theorem HeapG.le (h : HeapG B w H g cap s least n) : B ≤ w.heap.size := Nat.le_trans h.hB (Nat.le_of_lt h.ltH)
theorem HeapG.foot (h : HeapG B w H g cap s least n) : ∀ k, FootG H g k → B ≤ k := by
  obtain ⟨cur, -, -, hg⟩ := h.block
  rintro k (rfl | rfl)
  · exact h.hB
  · exact hg
theorem HeapG.cell (h : HeapG B w H g cap s least n) {i c : Nat} (hi : i < s.m) (hc : c < 10) : w.cell? ⟨g, i * 10 + c, none⟩ = some (cellH s i c) := by
  obtain ⟨cur, hh, ht, -⟩ := h.block
  rw [blk_cell hh]
  have := flatH_at s hi hc
  rw [← ht, List.getElem?_take] at this
  split at this
  · simpa using this
  · cases this
theorem HeapG.cells (h : HeapG B w H g cap s least n) {i : Nat} (hi : i < s.m) :
    w.cell? ⟨g, i * 10, none⟩ = some (.int .u64 (s.key i).1) ∧ w.cell? ⟨g, i * 10 + 1, none⟩ = some (.int .u64 (s.key i).2.1) ∧ w.cell? ⟨g, i * 10 + 2, none⟩ = some (.int .i64 (s.key i).2.2) ∧ w.cell? ⟨g, i * 10 + 3, none⟩ = some (.int .i64 (s.par i)) ∧ w.cell? ⟨g, i * 10 + 4, none⟩ = some (.int .i64 (s.ch i)) ∧
    w.cell? ⟨g, i * 10 + 5, none⟩ = some (.int .i64 (s.lf i)) ∧ w.cell? ⟨g, i * 10 + 6, none⟩ = some (.int .i64 (s.rt i)) ∧ w.cell? ⟨g, i * 10 + 7, none⟩ = some (.int .i64 (s.dg i)) ∧ w.cell? ⟨g, i * 10 + 8, none⟩ = some (.bool (s.mr i)) ∧ w.cell? ⟨g, i * 10 + 9, none⟩ = some (.bool (s.th i)) :=
  ⟨h.cell hi (c := 0) (by omega), h.cell hi (c := 1) (by omega), h.cell hi (c := 2) (by omega), h.cell hi (c := 3) (by omega), h.cell hi (c := 4) (by omega), h.cell hi (c := 5) (by omega), h.cell hi (c := 6) (by omega), h.cell hi (c := 7) (by omega), h.cell hi (c := 8) (by omega), h.cell hi (c := 9) (by omega)⟩
theorem HeapG.free (h : HeapG B w H g cap s least n) (o : Nat) : w.frozen? ⟨g, o, none⟩ = false := by
  obtain ⟨cur, hh, -⟩ := h.block
  exact blk_free hh o
theorem HeapG.head (h : HeapG B w H g cap s least n) : w.cell? ⟨H, 0, none⟩ = some (.slice (some ⟨g, 0, none⟩) s.m cap) ∧ w.cell? ⟨H, 1, none⟩ = some (.int .i64 least) ∧ w.cell? ⟨H, 2, none⟩ = some (.int .i64 n) ∧ ∀ o, w.frozen? ⟨H, o, none⟩ = false :=
  ⟨(blk_cell h.blk 0).trans rfl, (blk_cell h.blk 1).trans rfl, (blk_cell h.blk 2).trans rfl, fun o => blk_free h.blk o⟩
theorem HeapG.at (h : HeapG B w H g cap s least n) (eH : w'.heap[H]? = w.heap[H]?) (eg : w'.heap[g]? = w.heap[g]?) : HeapG B w' H g cap s least n := by
  refine ⟨h.hB, eH.trans h.blk, ?_⟩
  obtain ⟨h3, h4 | ⟨g', cap', cur, h5, hg, hh, rest⟩⟩ := h.row
  · exact ⟨h3, .inl h4⟩
  · cases h5
    exact ⟨h3, .inr ⟨g, cap, cur, rfl, hg, eg.trans hh, rest⟩⟩
theorem HeapG.below (h : HeapG B w H g cap s least n) (hb : Below w.heap.size w w') : HeapG B w' H g cap s least n := h.at (hb.block H h.ltH) (hb.block g h.ltg)
theorem HeapG.set {x c : Nat} {v : Value} (h : HeapG B w H g cap s least n) (hx : x < s.m) (hc : c < 10) (hu : Upd s x c v s') : HeapG B (w.setCell ⟨g, x * 10 + c, none⟩ v) H g cap s' least n := by
  have hst := (h.row.stored (x * 10 + c) v).1
  rw [flatH_set hu hx hc] at hst
  refine ⟨h.hB, ?_, ?_⟩
  · rw [hu.1]
    exact heap_set_ne (Ne.symm h.ne) h.blk
  · rw [hu.1]
    exact hst
theorem HeapG.setL (h : HeapG B w H g cap s least n) (z : Int) : HeapG B (w.setCell ⟨H, 1, none⟩ (.int .i64 z)) H g cap s z n := by
  have h2 : HeapG B (w.setCell ⟨H, 1, none⟩ (.int .i64 z)) H g cap s z n := by
    refine ⟨h.hB, at_of ⟨_, heap_setCell_same _ _ _ _ _ _ h.blk, by simp⟩, ?_⟩
    obtain ⟨h3, h4 | ⟨g', cap', cur, h5, hg, hh, rest⟩⟩ := h.row
    · exact ⟨h3, .inl h4⟩
    · cases h5
      exact ⟨h3, .inr ⟨g, cap, cur, rfl, hg, heap_set_ne h.ne hh, rest⟩⟩
  exact h2
theorem HeapG.setN (h : HeapG B w H g cap s least n) (z : Int) : HeapG B (w.setCell ⟨H, 2, none⟩ (.int .i64 z)) H g cap s least z := by
  refine ⟨h.hB, at_of ⟨_, heap_setCell_same _ _ _ _ _ _ h.blk, by simp⟩, ?_⟩
  obtain ⟨h3, h4 | ⟨g', cap', cur, h5, hg, hh, rest⟩⟩ := h.row
  · exact ⟨h3, .inl h4⟩
  · cases h5
    exact ⟨h3, .inr ⟨g, cap, cur, rfl, hg, heap_set_ne h.ne hh, rest⟩⟩
theorem tur_g {H g o : Nat} {w : World} {v : Value} : Tur (FootG H g) w (w.setCell ⟨g, o, none⟩ v) := Tur.set v (.inl (.inr rfl))
theorem tur_h {H g o : Nat} {w : World} {v : Value} : Tur (FootG H g) w (w.setCell ⟨H, o, none⟩ v) := Tur.set v (.inl (.inl rfl))
theorem wp_name {P : Program} {c : Code} {Q : Exit → Act → World → Prop} {a : Act} {w : World} (h : ∀ w2, w2 = w → c.wp P Q a w2) : c.wp P Q a w := h w rfl
/-- 'append', its equation at hand. -/
theorem wpList_append_eq {P : Program} {w : World} {ops : Array Oper} {rest : List Oper} {o : Oper} {a : Act} {Q : Exit → Act → World → Prop} {v' : Value} {w' : World} (hgd : o.guard = none) (s x : Operand) (t : TypeId)
    (ho : o.op = .call { callee := .builtin .append, args := #[s, x], argTypes := #[t, t] }) {v y : Value} (hs : a.eval s = v) (hx : a.eval x = y) (hr : (Builtin.append_ #[t, t] o.type #[v, y]).run P w = .ok v' w')
    (h : wpList P ops Q rest (a.put o.dst v') w') : wpList P ops Q (o :: rest) a w := by
  refine wpList_plain hgd fun K hK => ?_
  unfold Oper.wp execOp
  simp only [ho, resolve, invoke, builtin, Sem.run_bind, Sem.run_pure, Result.andThen_ok, List.map_toArray, List.map_cons, List.map_nil, hs, hx, hr]
  exact hK _ _ h
theorem step_append_eq {P : Program} {w : World} {ops : Array Oper} {o : Oper} {a : Act} {K : Act → World → Prop} {Q : Exit → Act → World → Prop} {E : Prop} {v' : Value} {w' : World} (hgd : o.guard = none) (s x : Operand) (t : TypeId)
    (ho : o.op = .call { callee := .builtin .append, args := #[s, x], argTypes := #[t, t] }) {v y : Value} (hs : a.eval s = v) (hx : a.eval x = y) (hr : (Builtin.append_ #[t, t] o.type #[v, y]).run P w = .ok v' w')
    (h : K (a.put o.dst v') w') : if Region.wanted o (yielded ops a.tmps) = true then Oper.wp P o a w K Q else E := by
  have hw : Region.wanted o (yielded ops a.tmps) = true := by simp [Region.wanted, hgd]
  rw [if_pos hw]
  unfold Oper.wp execOp
  simp only [ho, resolve, invoke, builtin, Sem.run_bind, Sem.run_pure, Result.andThen_ok, List.map_toArray, List.map_cons, List.map_nil, hs, hx, hr]
  exact h
/-- Three results, the second of them in a block that is known whole. -/
theorem results_row3 {P : Program} {fn : Func} {p u v : Tmp} {ty : TypeId} (h : fn.results = #[.tmp u, .cell p ty, .tmp v]) (tmps : Array Value) (w : World) (g : Nat) (t : TypeId) (cs : Array Value) (fr : Nat × Nat) (d : TypeDesc)
    (hp : tmps.getD p undef = .pointer (some ⟨g, 0, none⟩)) (hg : w.heap[g]? = some (.cells cs t fr))
    (hu : P.underlying ty = some d) (hd : (match d with | .struct _ | .array _ _ => true | _ => false) = true) (hi : (P.info? ty).map (·.size) = some cs.size) :
    (results fn tmps).run P w = .ok (.tuple #[tmps.getD u undef, .agg cs, tmps.getD v undef]) w := by
  have hp' : tmps[p]?.getD undef = .pointer (some ⟨g, 0, none⟩) := by simpa using hp
  simp only [results, h]
  simp [Result.andThen, asAddr, hp', run_loadVar_row w g t ty cs fr d hg hu hd hi]
theorem ret_row3 {P : Program} {fn : Func} {R : Ending → World → Prop} {a : Act} {w : World} {p u v : Tmp} {ty : TypeId} (h : fn.results = #[.tmp u, .cell p ty, .tmp v]) (g : Nat) (cs : Array Value) (t : TypeId) (d : TypeDesc)
    (hp : a.tmps.getD p undef = .pointer (some ⟨g, 0, none⟩)) (hu : P.underlying ty = some d) (hd : (match d with | .struct _ | .array _ _ => true | _ => false) = true)
    (hi : (P.info? ty).map (·.size) = some cs.size) (hdf : a.defers = []) (hg : ∃ cs', w.heap[g]? = some (.cells cs' t (0, 0)) ∧ cs' = cs)
    (hR : R (.returned (.tuple #[a.tmps.getD u undef, .agg cs, a.tmps.getD v undef])) w) : bodyPost P fn R .ret a w := by
  obtain ⟨_, hg, rfl⟩ := hg
  exact bodyPost_ret (results_row3 h a.tmps w g t _ (0, 0) d hp hg hu hd hi) hdf hR
theorem infoK : (Try.prog.info? 60).map (·.size) = some 3 := by kernel_rfl
/-- A store leaves another cell. -/
theorem setc_ne {W : World} {g a b : Nat} {v : Value} (h : a ≠ b) : (W.setCell ⟨g, a, none⟩ v).cell? ⟨g, b, none⟩ = W.cell? ⟨g, b, none⟩ := World.cell?_setCell_other W _ _ v (by intro e; injection e with _ e; exact h e)
theorem setb_ne {W : World} {g k a b : Nat} {v : Value} (h : g ≠ k) : (W.setCell ⟨g, a, none⟩ v).cell? ⟨k, b, none⟩ = W.cell? ⟨k, b, none⟩ := World.cell?_setCell_other W _ _ v (by intro e; injection e with e _; exact h e)
/-- What join makes of the entries. -/
def Hp.joinS (s : Hp) (x y r : Nat) : Hp := { s with lf := up (up s.lf x (y : Int)) r (x : Int), rt := up (up s.rt x (r : Int)) y (x : Int) }
theorem HeapG.joined {x y r : Nat} (h : HeapG B w H g cap s least n) (hx : x < s.m) (hy : y < s.m) (hr : r < s.m) :
    HeapG B ((((w.setCell ⟨g, x * 10 + 5, none⟩ (.int .i64 y)).setCell ⟨g, x * 10 + 6, none⟩ (.int .i64 r)).setCell ⟨g, y * 10 + 6, none⟩ (.int .i64 x)).setCell ⟨g, r * 10 + 5, none⟩ (.int .i64 x)) H g cap (s.joinS x y r) least n ∧
    Tur (FootG H g) w ((((w.setCell ⟨g, x * 10 + 5, none⟩ (.int .i64 y)).setCell ⟨g, x * 10 + 6, none⟩ (.int .i64 r)).setCell ⟨g, y * 10 + 6, none⟩ (.int .i64 x)).setCell ⟨g, r * 10 + 5, none⟩ (.int .i64 x)) :=
  ⟨(((h.set hx (by omega) (upd_lf s x (y : Int))).set hx (by omega) (upd_rt _ x (r : Int))).set hy (by omega) (upd_rt _ y (x : Int))).set hr (by omega) (upd_lf _ r (x : Int)),
    (((tur_g (w := w)).then tur_g).then tur_g).then tur_g⟩
set_option maxRecDepth 20000 in
set_option maxHeartbeats 4000000 in
theorem join_g (x y r : Nat) (h : HeapG B w H g cap s least n) (hx : x < s.m) (hy : y < s.m) (hr : r < s.m) (hrt : s.rt y = (r : Int)) (hxy : x ≠ y) (hxr : x ≠ r) :
    Calls Try.prog 60 #[.pointer (some ⟨H, 0, none⟩), .int .i64 x, .int .i64 y] w fun e w' => e = .returned (.tuple #[]) ∧ HeapG B w' H g cap (s.joinS x y r) least n ∧ Tur (FootG H g) w w' := by
  obtain ⟨c0, -, -, cf⟩ := h.head
  obtain ⟨-, -, -, -, -, -, y6, -, -, -⟩ := h.cells hy
  obtain ⟨-, -, -, -, -, x5, x6, -, -, -⟩ := h.cells hx
  obtain ⟨-, -, -, -, -, r5, -, -, -, -⟩ := h.cells hr
  rw [hrt] at y6
  have gf := h.free
  have ix : (x : Int) < (s.m : Int) := by omega
  have iy : (y : Int) < (s.m : Int) := by omega
  have ir : (r : Int) < (s.m : Int) := by omega
  have HJ := hid (h.joined hx hy hr)
  have a1 : ∀ W v, (World.setCell W ⟨g, x * 10 + 5, none⟩ v).cell? ⟨g, y * 10 + 6, none⟩ = W.cell? ⟨g, y * 10 + 6, none⟩ := fun W v => setc_ne (by omega)
  have a2 : ∀ W v, (World.setCell W ⟨g, x * 10 + 6, none⟩ v).cell? ⟨g, y * 10 + 6, none⟩ = W.cell? ⟨g, y * 10 + 6, none⟩ := fun W v => setc_ne (by omega)
  have a3 : ∀ W v, (World.setCell W ⟨g, x * 10 + 5, none⟩ v).cell? ⟨g, r * 10 + 5, none⟩ = W.cell? ⟨g, r * 10 + 5, none⟩ := fun W v => setc_ne (by omega)
  have a4 : ∀ W v, (World.setCell W ⟨g, x * 10 + 6, none⟩ v).cell? ⟨g, r * 10 + 5, none⟩ = W.cell? ⟨g, r * 10 + 5, none⟩ := fun W v => setc_ne (by omega)
  have a5 : ∀ W v, (World.setCell W ⟨g, y * 10 + 6, none⟩ v).cell? ⟨g, r * 10 + 5, none⟩ = W.cell? ⟨g, r * 10 + 5, none⟩ := fun W v => setc_ne (by omega)
  clear h hx hy hr hrt hxy hxr
  go_enter Try.func60, Try.ntmps60
  go_wp2
  go_end0
  exact ⟨rfl, HJ.out⟩
end Go.Proofs.Yteccpjijlkjneaa
