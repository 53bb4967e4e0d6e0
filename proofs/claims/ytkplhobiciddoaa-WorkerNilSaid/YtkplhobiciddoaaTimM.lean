/- The clock of chapter 10 in memory: a row of alarms, two cells each, and a map from names to places; laws of what stands and what is turned. -/
import Derived.Test.YtkplhobiciddoaaProg
import Derived.Test.YtkplhobiciddoaaCls
import Derived.Test.YtkplhobiciddoaaMap
import Derived.Test.YtkplhobiciddoaaTimL
import Derived.OwnWalk
import Derived.Laws.OwnMore
import Derived.WideKeyEntry
import Derived.Deep.DeepCutAuto
import Derived.Deep.CutBlock
import Derived.Deep.AppendLies
import Derived.IntWalk
namespace Go.Proofs.Ytkplhobiciddoaa
open Go.RowKit Go.Maps Go.WideShapes
theorem wp_name {P : Program} {c : Code} {Q : Exit → Act → World → Prop} {a : Act} {w : World} (h : ∀ w2, w2 = w → c.wp P Q a w2) : c.wp P Q a w := h w rfl
theorem cell_set_ne {w : World} {p q : Addr} {x v : Value} (e : p ≠ q) (h : w.cell? q = some v) : (w.setCell p x).cell? q = some v := (World.cell?_setCell_other w p q x e).trans h
theorem cell_drew {w : World} {q : Addr} {v : Value} (h : w.cell? q = some v) : w.drew.cell? q = some v := h
theorem below_grown {w w' : World} {r : Option Nat} {B : Nat} (h : w.grownBy w' r) (hB : B ≤ w.heap.size) (hr : ∀ j, r = some j → B ≤ j) : Below B w w' :=
  ⟨h.os, h.tape, h.output, h.size, fun k hk => h.block k (by omega) (by intro e; have := hr k e.symm; omega)⟩
theorem step_append_eq {P : Program} {w : World} {ops : Array Oper} {o : Oper} {a : Act} {K : Act → World → Prop} {Q : Exit → Act → World → Prop} {E : Prop} {v' : Value} {w' : World} (hgd : o.guard = none) (s x : Operand) (t : TypeId)
    (ho : o.op = .call { callee := .builtin .append, args := #[s, x], argTypes := #[t, t] }) {v y : Value} (hs : a.eval s = v) (hx : a.eval x = y) (hr : (Builtin.append_ #[t, t] o.type #[v, y]).run P w = .ok v' w')
    (h : K (a.put o.dst v') w') : if Region.wanted o (yielded ops a.tmps) = true then Oper.wp P o a w K Q else E := by
  have hw : Region.wanted o (yielded ops a.tmps) = true := by simp [Region.wanted, hgd]
  rw [if_pos hw]
  unfold Oper.wp execOp
  simp only [ho, resolve, invoke, builtin, Sem.run_bind, Sem.run_pure, Result.andThen_ok, List.map_toArray, List.map_cons, List.map_nil, hs, hx, hr]
  exact h
def cellsT (x : Al) : List Value := [.string x.1, .int .i64 x.2]
def flatT : List Al → List Value
  | [] => []
  | x :: l => cellsT x ++ flatT l
theorem flatT_length (l : List Al) : (flatT l).length = l.length * 2 := by
  induction l with
  | nil => rfl
  | cons v l ih => simp only [flatT, List.length_append, List.length_cons, ih, cellsT, List.length_nil]; omega
theorem flatT_append (l l' : List Al) : flatT (l ++ l') = flatT l ++ flatT l' := by
  induction l with
  | nil => rfl
  | cons v l ih => simp [flatT, ih]
theorem cellsT_one (x : Al) : ∀ u ∈ cellsT x, u.oneCell' = true := by
  intro u h
  simp only [cellsT, List.mem_cons, List.not_mem_nil, or_false] at h
  rcases h with rfl | rfl <;> rfl
theorem flatT_at (l : List Al) : ∀ j, (h : j < l.length) → ∀ c, c < 2 → (flatT l)[j * 2 + c]? = (cellsT (el l j))[c]? := by
  induction l with
  | nil => intro j h; simp at h
  | cons v l ih =>
    intro j h c hc
    cases j with
    | zero =>
      simp only [flatT, Nat.zero_mul, Nat.zero_add, el, List.getD_cons_zero]
      rw [List.getElem?_append_left (by simp [cellsT]; omega)]
    | succ j =>
      have hj : j < l.length := by simpa using h
      have := ih j hj c hc
      simp only [flatT, el, List.getD_cons_succ]
      rw [List.getElem?_append_right (by simp [cellsT]; omega), show (j + 1) * 2 + c - (cellsT v).length = j * 2 + c by simp [cellsT]; omega]
      exact this
theorem flatT_set (l : List Al) (x : Al) : ∀ j, (h : j < l.length) → ((flatT l).set (j * 2) (.string x.1)).set (j * 2 + 1) (.int .i64 x.2) = flatT (l.set j x) := by
  induction l with
  | nil => intro j h; simp at h
  | cons v l ih =>
    intro j h
    cases j with
    | zero => simp [flatT, cellsT]
    | succ j =>
      have hj : j < l.length := by simpa using h
      have := ih j hj
      simp only [flatT, List.set_cons_succ]
      rw [← this, List.set_append_right _ _ (by simp [cellsT]; omega), List.set_append_right _ _ (by simp [cellsT]; omega)]
      congr 2
      · congr 1
        simp [cellsT]; omega
      · simp [cellsT]; omega
theorem flatT_take (l : List Al) (n : Nat) : (flatT l).take (n * 2) = flatT (l.take n) := by
  induction l generalizing n with
  | nil => simp [flatT]
  | cons v l ih =>
    cases n with
    | zero => simp [flatT]
    | succ n =>
      simp only [flatT, List.take_succ_cons]
      rw [← ih n, List.take_append, List.take_of_length_le (by simp [cellsT]; omega)]
      congr 2
      simp [cellsT]; omega
def mkI (z : Int) : Value := .int .i64 z
theorem mkI_inj : ∀ x y, mkI x = mkI y → x = y := fun x y h => by injection h
/-- What a call may turn: the blocks of F, and what it makes. -/
structure Tur (F : Nat → Prop) (w w' : World) : Prop where
  os : w'.os = w.os
  tape : w'.tape = w.tape
  output : w'.output = w.output
  size : w.heap.size ≤ w'.heap.size
  kept : ∀ k, k < w.heap.size → ¬ F k → w'.heap[k]? = w.heap[k]?
theorem Tur.refl (F : Nat → Prop) (w : World) : Tur F w w := ⟨rfl, rfl, rfl, Nat.le_refl _, fun _ _ _ => rfl⟩
theorem Tur.trans {F G : Nat → Prop} {a b c : World} (h : Tur F a b) (k : Tur G b c) (hFG : ∀ i, G i → F i ∨ a.heap.size ≤ i) : Tur F a c :=
  ⟨k.os.trans h.os, k.tape.trans h.tape, k.output.trans h.output, Nat.le_trans h.size k.size, fun i hi hn => (k.kept i (Nat.lt_of_lt_of_le hi h.size) (fun hg => by
    rcases hFG i hg with h1 | h1
    · exact hn h1
    · omega)).trans (h.kept i hi hn)⟩
theorem Tur.then {F : Nat → Prop} {a b c : World} (h : Tur F a b) (k : Tur F b c) : Tur F a c := h.trans k (fun _ h => .inl h)
theorem Tur.of_below {F : Nat → Prop} {w w' : World} (h : Below w.heap.size w w') : Tur F w w' := ⟨h.os, h.tape, h.output, h.size, fun k hk _ => h.block k hk⟩
theorem Tur.of_grown {F : Nat → Prop} {w w' : World} {r : Option Nat} (h : w.grownBy w' r) (hr : ∀ g, r = some g → F g ∨ w.heap.size ≤ g) : Tur F w w' :=
  ⟨h.os, h.tape, h.output, h.size, fun k hk hn => h.block k hk (fun e => by
    rcases hr k e.symm with h1 | h1
    · exact hn h1
    · omega)⟩
theorem Tur.below {F : Nat → Prop} {w w' : World} {B : Nat} (h : Tur F w w') (hB : B ≤ w.heap.size) (hF : ∀ k, F k → B ≤ k) : Below B w w' :=
  ⟨h.os, h.tape, h.output, h.size, fun k hk => h.kept k (by omega) (fun e => by have := hF k e; omega)⟩
theorem Tur.set {F : Nat → Prop} {w : World} {p : Addr} (v : Value) (h : F p.block ∨ w.heap.size ≤ p.block) : Tur F w (w.setCell p v) :=
  ⟨rfl, rfl, rfl, by simp, fun k hk hn => heap_setCell_other w p k v (fun e => by
    subst e
    rcases h with h | h
    · exact hn h
    · omega)⟩
theorem Tur.mono {F G : Nat → Prop} {w w' : World} (h : Tur F w w') (hFG : ∀ k, F k → G k ∨ w.heap.size ≤ k) : Tur G w w' :=
  ⟨h.os, h.tape, h.output, h.size, fun k hk hn => h.kept k hk (fun e => by rcases hFG k e with h1 | h1; exact hn h1; omega)⟩
/-- The clock's map. -/
def MapI (w : World) (m : Option Nat) (n : Nat) (I : List UInt8 → Option Int) : Prop :=
  match m with | none => n = 0 ∧ I = noA | some b => OwnsM w Try.prog 9 mkI b n I
/-- The clock at block c: its row v of the alarms l, its map m of n entries that is the function I. -/
structure ClkS (B : Nat) (w : World) (c : Nat) (zn : Value) (v : Value) (m : Option Nat) (l : List Al) (n : Nat) (I : List UInt8 → Option Int) : Prop where
  le : B ≤ c
  blk : w.heap[c]? = some (.cells #[zn, v, .map m] 63 (0, 0))
  row : w.ownsRow B 71 2 v l.length (flatT l)
  mle : ∀ b, m = some b → B ≤ b
  map : MapI w m n I
/-- The blocks of a clock. -/
def Foot (c : Nat) (v : Value) (m : Option Nat) (k : Nat) : Prop := k = c ∨ v.ownBlock = some k ∨ m = some k
section
variable {B c n : Nat} {w w' : World} {v : Value} {m : Option Nat} {l : List Al} {I : List UInt8 → Option Int}
theorem ClkS.lt {zn : Value} (h : ClkS B w c zn v m l n I) : c < w.heap.size := lt_of_at h.blk
theorem MapI.lt {b : Nat} (h : MapI w (some b) n I) : b < w.heap.size := OwnsM.lt h
theorem MapI.at (h : MapI w m n I) (e : ∀ b, m = some b → w'.heap[b]? = w.heap[b]?) : MapI w' m n I := by
  cases m with
  | none => exact h
  | some b => exact OwnsM.at h (e b rfl)
theorem ownsRow_at {t : TypeId} {z k : Nat} {xs : List Value} (h : w.ownsRow B t z v k xs) (e : ∀ g, v.ownBlock = some g → w'.heap[g]? = w.heap[g]?) : w'.ownsRow B t z v k xs := by
  obtain ⟨h3, h4 | ⟨g, cap, cur, rfl, hg, hh, rest⟩⟩ := h
  · exact ⟨h3, .inl h4⟩
  · exact ⟨h3, .inr ⟨g, cap, cur, rfl, hg, (e g rfl).trans hh, rest⟩⟩
theorem ClkS.at {zn : Value} (h : ClkS B w c zn v m l n I) (e : ∀ k, Foot c v m k → w'.heap[k]? = w.heap[k]?) : ClkS B w' c zn v m l n I :=
  ⟨h.le, (e c (.inl rfl)).trans h.blk, ownsRow_at h.row (fun g hg => e g (.inr (.inl hg))), h.mle, h.map.at (fun b hb => e b (.inr (.inr hb)))⟩
theorem ClkS.foot {zn : Value} (h : ClkS B w c zn v m l n I) {k : Nat} (hk : Foot c v m k) : B ≤ k ∧ k < w.heap.size := by
  rcases hk with rfl | hk | hk
  · exact ⟨h.le, h.lt⟩
  · exact h.row.lt k hk
  · subst hk
    exact ⟨h.mle k rfl, h.map.lt⟩
theorem ClkS.below {zn : Value} (h : ClkS B w c zn v m l n I) (hb : Below w.heap.size w w') : ClkS B w' c zn v m l n I :=
  h.at (fun k hk => hb.block k (h.foot hk).2)
/-- What a walk wants of it where there are alarms. -/
theorem ClkS.cells {zn : Value} (h : ClkS B w c zn v m l n I) (hn : 0 < l.length) :
    ∃ g cap, v = .slice (some ⟨g, 0, none⟩) l.length cap ∧ B ≤ g ∧ g ≠ c ∧ g < w.heap.size ∧ (∀ i, w.frozen? ⟨g, i, none⟩ = false) ∧ ∀ j, j < l.length → w.cell? ⟨g, j * 2, none⟩ = some (.string (el l j).1) ∧ w.cell? ⟨g, j * 2 + 1, none⟩ = some (.int .i64 (el l j).2) := by
  obtain ⟨h0, h1, ⟨h3, ⟨-, h4⟩ | ⟨g, cap, cur, rfl, hg, hh, hc, -, hs, ht⟩⟩, -, -⟩ := h
  · omega
  · have hcell : ∀ j, j < l.length → ∀ c, c < 2 → w.cell? ⟨g, j * 2 + c, none⟩ = (cellsT (el l j))[c]? := fun j hj c hc9 => by
      rw [blk_cell hh, ← flatT_at l j hj c hc9, ← ht, List.getElem?_take, if_pos (by omega)]
      simp
    refine ⟨g, cap, rfl, hg, ?_, lt_of_at hh, blk_free hh, fun j hj => ⟨(hcell j hj 0 (by omega)).trans rfl, (hcell j hj 1 (by omega)).trans rfl⟩⟩
    intro e
    rw [e, h1] at hh
    injection hh with hh
    injection hh with _ h5
    exact absurd h5 (by decide)
theorem ClkS.own_ne {zn : Value} (h : ClkS B w c zn v m l n I) : v.ownBlock ≠ some c := by
  obtain ⟨-, h1, ⟨-, ⟨rfl, -⟩ | ⟨g, cap, cur, rfl, -, hh, -⟩⟩, -, -⟩ := h
  · intro e; cases e
  · intro e
    injection e with e
    simp only at e
    rw [e, h1] at hh
    injection hh with hh
    injection hh with _ h5
    exact absurd h5 (by decide)
theorem ClkS.map_ne {zn : Value} (h : ClkS B w c zn v m l n I) : ∀ b, m = some b → b ≠ c ∧ v.ownBlock ≠ some b := by
  intro b hb
  subst hb
  have hm : OwnsM w Try.prog 9 mkI b n I := h.map
  refine ⟨fun e => hm.ne h.blk e.symm, fun e => ?_⟩
  obtain ⟨-, ⟨rfl, -⟩ | ⟨g, cap, cur, rfl, -, hh, -⟩⟩ := h.row
  · cases e
  · injection e with e
    exact hm.ne hh e
/-- The row's slice, whether nil or not. -/
theorem ClkS.slice {zn : Value} (h : ClkS B w c zn v m l n I) : ∃ A cap, v = .slice A l.length cap := by
  obtain ⟨-, ⟨rfl, h0⟩ | ⟨g, cap, cur, rfl, _⟩⟩ := h.row
  · exact ⟨none, 0, by rw [h0]⟩
  · exact ⟨_, cap, rfl⟩
theorem ClkS.cell {zn : Value} (h : ClkS B w c zn v m l n I) : w.cell? ⟨c, 1, none⟩ = some v ∧ w.cell? ⟨c, 2, none⟩ = some (.map m) ∧ ∀ i, w.frozen? ⟨c, i, none⟩ = false :=
  ⟨(blk_cell h.blk 1).trans rfl, (blk_cell h.blk 2).trans rfl, blk_free h.blk⟩
/-- An alarm is stored whole into its place. -/
theorem ClkS.put {zn : Value} {g cap k : Nat} {j : Nat} (h : ClkS B w c zn (.slice (some ⟨g, 0, none⟩) k cap) m l n I) (hj : j < l.length) (x : Al) :
    ClkS B ((w.setCell ⟨g, j * 2, none⟩ (.string x.1)).setCell ⟨g, j * 2 + 1, none⟩ (.int .i64 x.2)) c zn (.slice (some ⟨g, 0, none⟩) k cap) m (l.set j x) n I := by
  have hne : g ≠ c := fun e => h.own_ne (by rw [e]; rfl)
  have hmne : ∀ b, m = some b → b ≠ g := fun b hb e => (h.map_ne b hb).2 (by rw [e]; rfl)
  obtain rfl : k = l.length := by
    obtain ⟨A, cap', e⟩ := h.slice
    injection e
  have r1 := h.row.stored (j * 2) (.string x.1)
  have r2 := r1.1.stored (j * 2 + 1) (.int .i64 x.2)
  refine ⟨h.le, ?_, ?_, h.mle, ?_⟩
  · rw [heap_setCell_other _ ⟨g, _, none⟩ c _ (Ne.symm hne), heap_setCell_other _ ⟨g, _, none⟩ c _ (Ne.symm hne)]; exact h.blk
  · rw [List.length_set, ← flatT_set l x j hj]
    exact r2.1
  · refine h.map.at (fun b hb => ?_)
    rw [heap_setCell_other _ ⟨g, _, none⟩ b _ (hmne b hb), heap_setCell_other _ ⟨g, _, none⟩ b _ (hmne b hb)]
end
theorem zero_int (w : World) : (zeroValue 3).run Try.prog w = .ok (mkI 0) w := by kernel_rfl
/-- 'm[k] = v' in two steps, as a region that draws has it. -/
theorem OwnsM.entry {w : World} {b n : Nat} {I : List UInt8 → Option Int} (h : OwnsM w Try.prog 9 mkI b n I) (hn : n < maxLen) {s : ByteArray} (hs : s.size ≤ maxLen) (x : Int) :
    ∃ v0 st W1 W2, (Instr.mapEntry 59 (.map (some b)) (.string s)).run Try.prog w = .ok (.tuple #[v0, .int .i64 st]) W1 ∧ (Instr.entryStore 59 (.map (some b)) (.int .i64 st) (.int .i64 x)).run Try.prog W1 = .ok () W2 ∧
      OwnsM W2 Try.prog 9 mkI b (if (I s.data.toList).isSome then n else n + 1) (putA I s.data.toList x) ∧ w.grownBy W1 (some b) ∧ w.grownBy W2 (some b) ∧ W1.heap.size = w.heap.size ∧ W2.heap.size = w.heap.size := by
  obtain ⟨w', hrun, hown, hg, hsz⟩ := h.store (t := 59) (e := 3) mkI_inj Try.underlying9 Try.underlying59 hn hs x
  obtain ⟨D, ⟨es, clock, hb, F, hss, hD⟩, r⟩ := h
  obtain ⟨v0, st, es1, clock1, h1, -, h2⟩ := Go.WideElems.entry_then_store (WideMaps.string_law Try.underlying9) Try.underlying59 (z := mkI 0) zero_int hb F (WideMaps.keyOf_string_mk Try.underlying9 hs)
  have hlt : b < w.heap.size := lt_of_at hb
  have hb1 : (ChangeMaps.setBlock w b (.map es1 clock1)).heap[b]? = some (.map es1 clock1) := by simp [ChangeMaps.setBlock, hlt]
  obtain ⟨es', clock', h3, h4⟩ := h2 (ChangeMaps.setBlock w b (.map es1 clock1)) (mkI x) hb1
  have e : w' = ChangeMaps.setBlock w b (.map es' clock') := by
    rw [hrun] at h4
    injection h4
  have hsame : ∀ (o : Obj) (u : World), (∃ o', u = ChangeMaps.setBlock w b o') → w.grownBy u (some b) ∧ u.heap.size = w.heap.size := by
    rintro o u ⟨o', rfl⟩
    refine ⟨⟨rfl, rfl, rfl, by simp [ChangeMaps.setBlock], fun k hk hne => ?_⟩, by simp [ChangeMaps.setBlock]⟩
    have hne' : k ≠ b := fun e => hne (by rw [e])
    simp [ChangeMaps.setBlock, Ne.symm hne']
  have hW2 : ChangeMaps.setBlock (ChangeMaps.setBlock w b (.map es1 clock1)) b (.map es' clock') = ChangeMaps.setBlock w b (.map es' clock') := by
    simp [ChangeMaps.setBlock]
  refine ⟨v0, st, _, _, h1, h3, ?_, (hsame (.map es1 clock1) _ ⟨_, rfl⟩).1, ?_, (hsame (.map es1 clock1) _ ⟨_, rfl⟩).2, ?_⟩
  · rw [hW2, ← e]; exact hown
  · rw [hW2]; exact (hsame (.map es1 clock1) _ ⟨_, rfl⟩).1
  · rw [hW2]; exact (hsame (.map es1 clock1) _ ⟨_, rfl⟩).2
/-- The map says where each name stands. -/
def Idx (l : List Al) (I : List UInt8 → Option Int) : Prop := ∀ k z, I k = some z ↔ ∃ j, j < l.length ∧ (el l j).1.data.toList = k ∧ z = (j : Int)
theorem Idx.at {l : List Al} {I : List UInt8 → Option Int} (h : Idx l I) {j : Nat} (hj : j < l.length) : I (el l j).1.data.toList = some (j : Int) := (h _ _).2 ⟨j, hj, rfl, rfl⟩
theorem Idx.inj {l : List Al} {I : List UInt8 → Option Int} (h : Idx l I) {i j : Nat} (hi : i < l.length) (hj : j < l.length) (e : (el l i).1.data.toList = (el l j).1.data.toList) : i = j := by
  have h1 := h.at hi
  rw [e, h.at hj] at h1
  injection h1 with h1
  omega
theorem Idx.swapped {l : List Al} {I : List UInt8 → Option Int} (h : Idx l I) {i j : Nat} (hi : i < l.length) (hj : j < l.length) :
    Idx (sw l i j) (putA (putA I (el (sw l i j) i).1.data.toList i) (el (sw l i j) j).1.data.toList j) := by
  have ei : el (sw l i j) i = el l j := by
    rw [el_sw hi hj]
    split
    · rename_i e; rw [e]
    · rw [if_pos rfl]
  have ej : el (sw l i j) j = el l i := by rw [el_sw hi hj, if_pos rfl]
  rw [ei, ej]
  intro k z
  by_cases e1 : k = (el l i).1.data.toList
  · subst e1
    rw [putA_same]
    constructor
    · intro e
      injection e with e
      exact ⟨j, by simpa using hj, by rw [ej], e.symm⟩
    · rintro ⟨t, ht, hk, rfl⟩
      rw [sw_length] at ht
      rw [el_sw hi hj] at hk
      split at hk
      · rename_i e; rw [e]
      · split at hk
        · rename_i e1 e2
          have := h.inj hj hi hk
          exact absurd (e2.trans this.symm) e1
        · rename_i e1 e2
          exact absurd (h.inj ht hi hk) e2
  · rw [putA_other _ _ e1]
    by_cases e2 : k = (el l j).1.data.toList
    · subst e2
      rw [putA_same]
      have hij : i ≠ j := fun e => e1 (by rw [e])
      constructor
      · intro e
        injection e with e
        exact ⟨i, by simpa using hi, by rw [ei], e.symm⟩
      · rintro ⟨t, ht, hk, rfl⟩
        rw [sw_length] at ht
        rw [el_sw hi hj] at hk
        split at hk
        · exact absurd (h.inj hi hj hk) hij
        · split at hk
          · rename_i e3 e4; rw [e4]
          · rename_i e3 e4
            exact absurd (h.inj ht hj hk) e3
    · rw [putA_other _ _ e2, h]
      constructor
      · rintro ⟨t, ht, hk, rfl⟩
        refine ⟨t, by simpa using ht, ?_, rfl⟩
        rw [el_sw hi hj, if_neg (fun e => e2 (by rw [← hk, e])), if_neg (fun e => e1 (by rw [← hk, e]))]
        exact hk
      · rintro ⟨t, ht, hk, rfl⟩
        rw [sw_length] at ht
        refine ⟨t, ht, ?_, rfl⟩
        rw [el_sw hi hj] at hk
        split at hk
        · exact absurd hk.symm e1
        · split at hk
          · exact absurd hk.symm e2
          · exact hk
end Go.Proofs.Ytkplhobiciddoaa
