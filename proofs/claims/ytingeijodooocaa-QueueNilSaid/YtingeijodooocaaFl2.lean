/- Regions that draw their order where a move and an operation on it (an addition) may come behind a store: both are taken first (general). -/
import Derived.Test.YtingeijodooocaaFlo
namespace Go.Proofs.Ytingeijodooocaa
open Go.RowKit
variable {P : Program}
theorem exec_add {o : Oper} {a : Act} {t t2 : TypeId} {x y : Operand} {X Y Z : Int} {w : World} (h : o.op = .binOp .add t x y t2) (hx : a.eval x = .int .i64 X) (hy : a.eval y = .int .i64 Y) (hz : IntKind.i64.wrap (X + Y) = Z) :
    (execOp a.eval o).run P w = .ok (.value (.int .i64 Z)) w := by
  generalize a.eval = ρ at *
  unfold execOp
  rw [h]
  simp [eqGuard, hx, hy, go_sem]
  exact hz
theorem wp_region_float2B {C : World → Prop} {id : Nat} {Q : Exit → Act → World → Prop} {a : Act} {w : World} {l : List Oper} (i j n m k : Nat) (ks : List Nat) (d d' : Option Tmp) (v : Value) (x : Operand) (hm : P.follows .mixedOrders = true)
    (hi : moveAt l i d x) (hj : ∃ oj, l.toArray[j]? = some oj ∧ oj.guard = none ∧ oj.dst = d' ∧ ∀ w, (execOp (a.put d (a.eval x)).eval oj).run P w = .ok (.value v) w)
    (hQ : ∀ v c a w, Q (.panic c) (a.put d v) w → Q (.panic c) a w) (hQ' : ∀ v c a w, Q (.panic c) (a.put d' v) w → Q (.panic c) a w)
    (hb : (Region.noSelect l.toArray && Region.free .any l.toArray (Array.replicate l.toArray.size false) i && (Region.ready .any l.toArray (Array.replicate l.toArray.size false)).contains i &&
      Region.free .any l.toArray ((Array.replicate l.toArray.size false).setIfInBounds i true) j && (Region.ready .any l.toArray ((Array.replicate l.toArray.size false).setIfInBounds i true)).contains j &&
      floatB .any l.toArray n ks (((Array.replicate l.toArray.size false).setIfInBounds i true).setIfInBounds j true) && decide (l.toArray.size = (((l.take m).eraseIdx k).eraseIdx k).length + (l.toArray.size - n) + 1 + 1)) = true)
    (hl : (((l.take m).eraseIdx k).eraseIdx k).map some = ks.map (fun k => l.toArray[k]?)) (hC : C { w with drawn := w.drawn + 1 })
    (h : wpQuiet P l.toArray C (fun a' => ∀ w', C w' → wpList P l.toArray Q (l.drop n) a' w') (((l.take m).eraseIdx k).eraseIdx k) ((a.put d (a.eval x)).put d' v)) : (Code.region id l.toArray true).wp P Q a w := by
  obtain ⟨oi, hi, ho, hg, rfl⟩ := hi
  obtain ⟨oj, hj, hg', rfl, hy⟩ := hj
  simp only [Bool.and_eq_true, decide_eq_true_eq] at hb
  obtain ⟨⟨⟨⟨⟨⟨h1, h2⟩, h3⟩, h2'⟩, h3'⟩, h4⟩, h5⟩ := hb
  have hy' : Yields P l.toArray oj v (a.put oi.dst (a.eval x)) := .inl ⟨by simp [Region.wanted, hg'], hy⟩
  refine wp_region_any hm ?_
  rw [h5]
  exact wpAny_take hi h1 (by rw [← h5]; exact h2) (by rw [← h5]; exact h3) (hQ _) (yields_move ho hg) (wpAny_take hj h1 (by rw [← h5]; exact h2') (by rw [← h5]; exact h3') (hQ' _) hy' (by rw [← h5]; exact any_float n ks _ rfl h4 hl hC h))
end Go.Proofs.Ytingeijodooocaa
