/- What a call may turn; append by its equation (general). -/
import Derived.Test.YtidcbcljeofooaaGreatDoorProg
import Derived.Test.YtidcbcljeofooaaGreatDoorCls
import Derived.OwnWalk
import Derived.Maps.Range
import Derived.RegionTactic
import Derived.Deep.RegionHeld3
import Derived.Deep.CutBlock
import Derived.Deep.RegionLaw
import Derived.Deep.LoopGhost
import Derived.Laws.OwnMore
import Derived.IntWalk
namespace Go.Proofs.YtidcbcljeofooaaGreatDoor
open Go.RowKit
/-- What a call may turn: the blocks of F, and what it makes. -/
structure Tur (F : Nat → Prop) (w w' : World) : Prop where
  os : w'.os = w.os
  tape : w'.tape = w.tape
  output : w'.output = w.output
  size : w.heap.size ≤ w'.heap.size
  kept : ∀ k, k < w.heap.size → ¬ F k → w'.heap[k]? = w.heap[k]?
theorem Tur.refl (F : Nat → Prop) (w : World) : Tur F w w := ⟨rfl, rfl, rfl, Nat.le_refl _, fun _ _ _ => rfl⟩
theorem Tur.trans {F G : Nat → Prop} {a b c : World} (h : Tur F a b) (k : Tur G b c) (hFG : ∀ i, G i → F i ∨ a.heap.size ≤ i) : Tur F a c :=
  ⟨k.os.trans h.os, k.tape.trans h.tape, k.output.trans h.output, Nat.le_trans h.size k.size, fun i hi hn => (k.kept i (Nat.lt_of_lt_of_le hi h.size) (fun hg => by
    rcases hFG i hg with h1 | h1
    · exact hn h1
    · omega)).trans (h.kept i hi hn)⟩
theorem Tur.then {F : Nat → Prop} {a b c : World} (h : Tur F a b) (k : Tur F b c) : Tur F a c := h.trans k (fun _ h => .inl h)
theorem Tur.of_below {F : Nat → Prop} {w w' : World} (h : Below w.heap.size w w') : Tur F w w' := ⟨h.os, h.tape, h.output, h.size, fun k hk _ => h.block k hk⟩
theorem Tur.of_grown {F : Nat → Prop} {w w' : World} {r : Option Nat} (h : w.grownBy w' r) (hr : ∀ g, r = some g → F g ∨ w.heap.size ≤ g) : Tur F w w' :=
  ⟨h.os, h.tape, h.output, h.size, fun k hk hn => h.block k hk (fun e => by
    rcases hr k e.symm with h1 | h1
    · exact hn h1
    · omega)⟩
theorem Tur.below {F : Nat → Prop} {w w' : World} {B : Nat} (h : Tur F w w') (hB : B ≤ w.heap.size) (hF : ∀ k, F k → B ≤ k) : Below B w w' :=
  ⟨h.os, h.tape, h.output, h.size, fun k hk => h.kept k (by omega) (fun e => by have := hF k e; omega)⟩
theorem Tur.set {F : Nat → Prop} {w : World} {p : Addr} (v : Value) (h : F p.block ∨ w.heap.size ≤ p.block) : Tur F w (w.setCell p v) :=
  ⟨rfl, rfl, rfl, by simp, fun k hk hn => heap_setCell_other w p k v (fun e => by
    subst e
    rcases h with h | h
    · exact hn h
    · omega)⟩
theorem Tur.mono {F G : Nat → Prop} {w w' : World} (h : Tur F w w') (hFG : ∀ k, F k → G k ∨ w.heap.size ≤ k) : Tur G w w' :=
  ⟨h.os, h.tape, h.output, h.size, fun k hk hn => h.kept k hk (fun e => by rcases hFG k e with h1 | h1; exact hn h1; omega)⟩
theorem Tur.drew_ (F : Nat → Prop) (w : World) : Tur F w w.drew := ⟨rfl, by simp, rfl, Nat.le_refl _, fun _ _ _ => rfl⟩
theorem wp_name {P : Program} {c : Code} {Q : Exit → Act → World → Prop} {a : Act} {w : World} (h : ∀ w2, w2 = w → c.wp P Q a w2) : c.wp P Q a w := h w rfl
/-- 'append', its equation at hand. -/
theorem wpList_append_eq {P : Program} {w : World} {ops : Array Oper} {rest : List Oper} {o : Oper} {a : Act} {Q : Exit → Act → World → Prop} {v' : Value} {w' : World} (hgd : o.guard = none) (s x : Operand) (t : TypeId)
    (ho : o.op = .call { callee := .builtin .append, args := #[s, x], argTypes := #[t, t] }) {v y : Value} (hs : a.eval s = v) (hx : a.eval x = y) (hr : (Builtin.append_ #[t, t] o.type #[v, y]).run P w = .ok v' w')
    (h : wpList P ops Q rest (a.put o.dst v') w') : wpList P ops Q (o :: rest) a w := by
  refine wpList_plain hgd fun K hK => ?_
  unfold Oper.wp execOp
  simp only [ho, resolve, invoke, builtin, Sem.run_bind, Sem.run_pure, Result.andThen_ok, List.map_toArray, List.map_cons, List.map_nil, hs, hx, hr]
  exact hK _ _ h
theorem step_append_eq {P : Program} {w : World} {ops : Array Oper} {o : Oper} {a : Act} {K : Act → World → Prop} {Q : Exit → Act → World → Prop} {E : Prop} {v' : Value} {w' : World} (hgd : o.guard = none) (s x : Operand) (t : TypeId)
    (ho : o.op = .call { callee := .builtin .append, args := #[s, x], argTypes := #[t, t] }) {v y : Value} (hs : a.eval s = v) (hx : a.eval x = y) (hr : (Builtin.append_ #[t, t] o.type #[v, y]).run P w = .ok v' w')
    (h : K (a.put o.dst v') w') : if Region.wanted o (yielded ops a.tmps) = true then Oper.wp P o a w K Q else E := by
  have hw : Region.wanted o (yielded ops a.tmps) = true := by simp [Region.wanted, hgd]
  rw [if_pos hw]
  unfold Oper.wp execOp
  simp only [ho, resolve, invoke, builtin, Sem.run_bind, Sem.run_pure, Result.andThen_ok, List.map_toArray, List.map_cons, List.map_nil, hs, hx, hr]
  exact h
theorem then_name {K : Act → World → Prop} {Q : Exit → Act → World → Prop} {x : Exit} {a : Act} {w : World} (h : ∀ w2, w2 = w → Exit.then K Q x a w2) : Exit.then K Q x a w := h w rfl
end Go.Proofs.YtidcbcljeofooaaGreatDoor
