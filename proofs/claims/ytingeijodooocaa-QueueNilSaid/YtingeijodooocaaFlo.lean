/- Regions that draw their order, where some operations of the head may also come behind a store of the tail: those that yield in whatever world are taken first; then the quiet head in the order of the text, then the forced tail as a list. No premise on the program beyond the mode of its orders. -/
import Derived.Test.YtingeijodooocaaCls
namespace Go.Proofs.Ytingeijodooocaa
open Go.RowKit
section
variable {P : Program} {ops : Array Oper} {md : Region.Mode} {C : World → Prop} {l0 : Array Bool} {n : Nat}
def sinkF (md : Region.Mode) (ops : Array Oper) (n : Nat) (l0 : Array Bool) : Bool := (List.range n).all fun i => l0.getD i false || (List.range (n + 1)).any fun j => decide (i < j) && Region.waitsFor md ops j i
def closedF (md : Region.Mode) (ops : Array Oper) (n : Nat) (l0 : Array Bool) : Bool := decide (l0.size = ops.size) && (List.range ops.size).all fun j => !(l0.getD j false) || (decide (j < n) && match ops[j]? with
  | some o => o.after.all (fun e => !(Region.binds md e) || l0.getD e.on false)
  | none => false)
structure HeadF (md : Region.Mode) (ops : Array Oper) (n : Nat) (l0 listed : Array Bool) : Prop where
  inv : HeadInv md ops n listed
  base : ∀ i, l0.getD i false = true → listed.getD i false = true
theorem HeadF.set {i : Nat} {listed : Array Bool} (inv : HeadF md ops n l0 listed) (hi : i ∈ Region.ready md ops listed) (hin : i < n) : HeadF md ops n l0 (listed.setIfInBounds i true) :=
  ⟨inv.inv.set hi hin, fun j hj => getD_set_true (inv.base j hj)⟩
theorem HeadF.start (h : closedF md ops n l0 = true) : HeadF md ops n l0 l0 := by
  simp only [closedF, Bool.and_eq_true, decide_eq_true_eq] at h
  obtain ⟨hsz, hall⟩ := h
  have key : ∀ j, l0.getD j false = true → j < n ∧ ∃ o, ops[j]? = some o ∧ ∀ e ∈ o.after, Region.binds md e = true → l0.getD e.on false = true := by
    intro j hj
    have hjs : j < ops.size := by
      rcases Nat.lt_or_ge j l0.size with h | h
      · omega
      · simp [Array.getElem?_eq_none h] at hj
    have h1 := List.all_eq_true.1 hall j (List.mem_range.2 hjs)
    simp only [hj, Bool.not_true, Bool.false_or, Bool.and_eq_true, decide_eq_true_eq] at h1
    refine ⟨h1.1, ?_⟩
    have h2 := h1.2
    cases ho : ops[j]? with
    | none => rw [ho] at h2; cases h2
    | some o =>
      rw [ho] at h2
      refine ⟨o, rfl, fun e he hb => ?_⟩
      have h3 := Array.all_eq_true'.1 h2 e he
      simpa [hb] using h3
  refine ⟨⟨hsz, fun j oj hj hl e he hb => ?_, fun t ht ht' => ?_⟩, fun _ h => h⟩
  · obtain ⟨-, o, ho, hh⟩ := key j hl
    have : oj = o := Option.some.inj (hj.symm.trans ho)
    subst this
    exact hh e he hb
  · cases hl : l0.getD t false with
    | true => have := (key t hl).1; omega
    | false => exact getD_in (by omega) hl
theorem tail_waitsF {listed : Array Bool} (hs : sinkF md ops n l0 = true) (hc : Region.chainB md ops n = true) (hn : n < ops.size) (inv : HeadF md ops n l0 listed) :
    ∀ (d i : Nat), n - i = d → i < n → listed.getD i true = false → ∀ t, n ≤ t → t ∉ Region.ready md ops listed := by
  intro d
  induction d using Nat.strongRecOn with
  | _ d ih =>
    intro i hd hi hun t ht hr
    obtain ⟨_, ot, hot, hall⟩ := mem_ready.1 hr
    have htlt : t < ops.size := (Array.getElem?_eq_some_iff.1 hot).1
    by_cases htn : t = n
    · subst htn
      have h1 := List.all_eq_true.1 hs i (List.mem_range.2 hi)
      have hi0 : l0.getD i false = false := by
        cases h0 : l0.getD i false with
        | false => rfl
        | true =>
          have := inv.base i h0
          rw [getD_both hun] at this
          cases this
      rw [hi0, Bool.false_or] at h1
      obtain ⟨j, hj, hj2⟩ := List.any_eq_true.1 h1
      simp only [Bool.and_eq_true, decide_eq_true_eq] at hj2
      obtain ⟨oj, hoj, e, he, hb, hon⟩ := Region.waitsFor_spec hj2.2
      have hjle : j ≤ t := by have := List.mem_range.1 hj; omega
      by_cases hjt : j = t
      · subst hjt
        have : oj = ot := Option.some.inj (hoj.symm.trans hot)
        subst this
        have h2 := hall e he hb
        rw [hon, getD_both hun] at h2
        cases h2
      · cases hl : listed.getD j false with
        | true =>
          have h2 := inv.inv.closed j oj hoj hl e he hb
          rw [hon, getD_both hun] at h2
          cases h2
        | false =>
          have hjs : j < listed.size := by rw [inv.inv.size]; omega
          exact ih (t - j) (by omega) j rfl (by omega) (getD_in hjs hl) t (Nat.le_refl _) hr
    · have h1 := List.all_eq_true.1 hc t (List.mem_range.2 htlt)
      simp only [Bool.or_eq_true, decide_eq_true_eq] at h1
      rcases h1 with h1 | h1
      · omega
      · obtain ⟨o', ho', e, he, hb, hon⟩ := Region.waitsFor_spec h1
        have : o' = ot := Option.some.inj (ho'.symm.trans hot)
        subst this
        have h2 := hall e he hb
        rw [hon, getD_both (inv.inv.tail (t - 1) (by omega) (by omega))] at h2
        cases h2
theorem head_firstF {i : Nat} {oi : Oper} {v : Value} {L : Array Bool → Act → Prop} (hi : ops[i]? = some oi)
    (hsel : ∀ (j : Nat) (o : Oper) cs b, ops[j]? = some o → o.op ≠ .select cs b)
    (hs : sinkF md ops n l0 = true) (hc : Region.chainB md ops n = true) (hn : n < ops.size) (hin : i < n)
    (hdone : ∀ listed a, L listed a → ∀ j ∈ Region.ready md ops listed, n ≤ j) :
    ∀ (f : Nat) (listed : Array Bool) (a : Act), HeadF md ops n l0 listed →
      (∀ j oj, ops[j]? = some oj → j ≠ i → listed.getD j true = false → (∀ e ∈ oj.after, Region.binds md e = true → e.on ≠ i) → oi.apart ops oj = true) →
      i ∈ Region.ready md ops listed → YieldsIn P ops C oi v a →
      headAny P md ops C n L f (listed.setIfInBounds i true) (a.put oi.dst v) → headAny P md ops C n L (f + 1) listed a := by
  intro f
  induction f with
  | zero =>
    intro listed a inv _ hr hy H
    have hun := (mem_ready.1 hr).1
    refine ⟨fun h => (by rw [h] at hr; cases hr), fun j hj => ?_⟩
    have hjn : j < n := by
      rcases Nat.lt_or_ge j n with h | h
      · exact h
      · exact absurd hj (tail_waitsF hs hc hn inv _ i rfl hin hun j h)
    refine ⟨hjn, ?_⟩
    by_cases hji : j = i
    · subst hji; exact hy.qOp hi H
    · have := hdone _ _ H j (ready_mono hj hji)
      omega
  | succ f ih =>
    intro listed a inv hfree hr hy H
    have hun := (mem_ready.1 hr).1
    refine ⟨fun h => (by rw [h] at hr; cases hr), fun j hj => ?_⟩
    have hjn : j < n := by
      rcases Nat.lt_or_ge j n with h | h
      · exact h
      · exact absurd hj (tail_waitsF hs hc hn inv _ i rfl hin hun j h)
    refine ⟨hjn, ?_⟩
    by_cases hji : j = i
    · subst hji; exact hy.qOp hi H
    · have h1 := (H.2 j (ready_mono hj hji)).2
      obtain ⟨hjun, oj, hoj, hall⟩ := mem_ready.1 hj
      have hnot : ∀ e ∈ oj.after, Region.binds md e = true → e.on ≠ i := fun e he hb heq => by
        have h1 := hall e he hb
        rw [heq, getD_both hun] at h1
        cases h1
      have h2 := Go.qOp_put hoj (hfree j oj hoj hji hjun hnot) (fun cs b => hsel i oi cs b hi) (fun cs b => hsel j oj cs b hoj) hy h1
      have hfree' : ∀ k ok, ops[k]? = some ok → k ≠ i → (listed.setIfInBounds j true).getD k true = false →
          (∀ e ∈ ok.after, Region.binds md e = true → e.on ≠ i) → oi.apart ops ok = true := fun k ok hk hki hun hno => by
        refine hfree k ok hk hki ?_ hno
        by_cases hjk : j = k
        · subst hjk; exact hjun
        · rw [getD_set_ne true hjk] at hun; exact hun
      refine Go.qOp_mono (fun a' h3 => ih (listed.setIfInBounds j true) a' (inv.set hj hjn) hfree' (ready_mono hr (Ne.symm hji)) h3.1 ?_) h2
      rw [Array.setIfInBounds_comm _ _ hji]
      exact h3.2
/-- The head's operations, by number, may come up one by one. -/
def lexF (md : Region.Mode) (ops : Array Oper) (n g : Nat) : List Nat → Array Bool → Bool
  | [], listed => Region.seqB md ops g n listed
  | i :: r, listed => decide (i < n) && (Region.ready md ops listed).contains i && Region.free md ops listed i && lexF md ops n g r (listed.setIfInBounds i true)
theorem head_lexF {g : Nat} {Lq : Act → Prop} (hsel : Region.noSelect ops = true) (hs : sinkF md ops n l0 = true) (hc : Region.chainB md ops n = true) (hn : n < ops.size) :
    ∀ (l : List Oper) (ks : List Nat) (listed : Array Bool) (a : Act), l.map some = ks.map (fun k => ops[k]?) → HeadF md ops n l0 listed →
    lexF md ops n g ks listed = true → wpQuiet P ops C Lq l a →
    headAny P md ops C n (fun listed' a' => Region.seqB md ops g n listed' = true ∧ Lq a') l.length listed a
  | [], [], listed, a, _, _, hB, h => ⟨hB, h⟩
  | [], _ :: _, _, _, hl, _, _, _ => by simp at hl
  | _ :: _, [], _, _, hl, _, _, _ => by simp at hl
  | o :: l, k :: ks, listed, a, hl, inv, hB, h => by
    simp only [List.map_cons, List.cons.injEq] at hl
    obtain ⟨h0, hl⟩ := hl
    have h0 : ops[k]? = some o := h0.symm
    simp only [lexF, Bool.and_eq_true, decide_eq_true_eq] at hB
    obtain ⟨⟨⟨hkn, hr⟩, hf⟩, hB'⟩ := hB
    have hr' : k ∈ Region.ready md ops listed := by simpa using hr
    have hst : qOp P ops C k (wpQuiet P ops C Lq l) a := by unfold qOp; simp only [h0]; exact h
    obtain ⟨v, hy, hK⟩ := yieldsIn_of_qOp h0 hst
    exact head_firstF h0 (Region.noSelect_spec hsel) hs hc hn hkn (fun listed' a' hL => seqB_ready hL.1) l.length listed a inv (Region.free_spec h0 hf) hr' hy
      (head_lexF hsel hs hc hn l ks _ _ hl (inv.set hr' hkn) hB' hK)
/-- All that is asked of the region's order. -/
def floatB (md : Region.Mode) (ops : Array Oper) (n : Nat) (ks : List Nat) (l0 : Array Bool) : Bool :=
  Region.noSelect ops && decide (n < ops.size) && sinkF md ops n l0 && Region.chainB md ops n && closedF md ops n l0 && lexF md ops n (ops.size - n) ks l0
/-- The rest of a region, some operations having been taken: the quiet head, then the forced tail. -/
theorem any_float {Q : Exit → Act → World → Prop} {a : Act} {w : World} {l : List Oper} (n : Nat) (ks : List Nat) (lh : List Oper) {f : Nat} (hf : f = lh.length + (l.toArray.size - n))
    (hB : floatB .any l.toArray n ks l0 = true) (hl : lh.map some = ks.map (fun k => l.toArray[k]?)) (hC : C w)
    (h : wpQuiet P l.toArray C (fun a' => ∀ w', C w' → wpList P l.toArray Q (l.drop n) a' w') lh a) : wpAny P .any l.toArray Q f l0 a w := by
  simp only [floatB, Bool.and_eq_true, decide_eq_true_eq] at hB
  obtain ⟨⟨⟨⟨⟨hsel, hn⟩, hs⟩, hc⟩, hcl⟩, hlex⟩ := hB
  have hdl : (l.drop n).length = l.toArray.size - n := by simp
  have H := head_lexF (C := C) (md := .any) (g := l.toArray.size - n) hsel hs hc hn lh ks l0 a hl (HeadF.start hcl) hlex h
  rw [hf]
  exact any_of_head (Q' := Q) (g := l.toArray.size - n) (fun listed a' w' hw' hL => by
    have := wpAny_of_seq (md := .any) (Q' := Q) (l.drop n) n listed a' w' (fun j => by simp [List.getElem?_drop]) (by rw [hdl]; exact hL.1) (hL.2 w' hw')
    rwa [hdl] at this) _ _ _ _ hC H
/-- A move yields in whatever world. -/
theorem yields_move {o : Oper} {x : Operand} {a : Act} (h : o.op = .move x) (hg : o.guard = none) : Yields P ops o (a.eval x) a := by
  refine .inl ⟨by simp [Region.wanted, hg], fun w => ?_⟩
  unfold execOp
  rw [h]
  rfl
/-- Operation number i is a move of x into d, with no guard. -/
def moveAt (l : List Oper) (i : Nat) (d : Option Tmp) (x : Operand) : Prop := ∃ oi, l.toArray[i]? = some oi ∧ oi.op = .move x ∧ oi.guard = none ∧ oi.dst = d
/-- A region that draws: one move is taken first; then the quiet head, then the forced tail. -/
theorem wp_region_float1 {id : Nat} {Q : Exit → Act → World → Prop} {a : Act} {w : World} {l : List Oper} (i n m k : Nat) (ks : List Nat) (d : Option Tmp) (x : Operand) (hm : P.follows .mixedOrders = true)
    (hi : moveAt l i d x)
    (hQ : ∀ v c a w, Q (.panic c) (a.put d v) w → Q (.panic c) a w)
    (hb : (Region.noSelect l.toArray && Region.free .any l.toArray (Array.replicate l.toArray.size false) i && (Region.ready .any l.toArray (Array.replicate l.toArray.size false)).contains i &&
      floatB .any l.toArray n ks ((Array.replicate l.toArray.size false).setIfInBounds i true) && decide (l.toArray.size = ((l.take m).eraseIdx k).length + (l.toArray.size - n) + 1)) = true)
    (hl : ((l.take m).eraseIdx k).map some = ks.map (fun k => l.toArray[k]?)) (hC : C { w with drawn := w.drawn + 1 })
    (h : wpQuiet P l.toArray C (fun a' => ∀ w', C w' → wpList P l.toArray Q (l.drop n) a' w') ((l.take m).eraseIdx k) (a.put d (a.eval x))) : (Code.region id l.toArray true).wp P Q a w := by
  obtain ⟨oi, hi, ho, hg, rfl⟩ := hi
  simp only [Bool.and_eq_true, decide_eq_true_eq] at hb
  obtain ⟨⟨⟨⟨h1, h2⟩, h3⟩, h4⟩, h5⟩ := hb
  refine wp_region_any hm ?_
  rw [h5]
  exact wpAny_take hi h1 (by rw [← h5]; exact h2) (by rw [← h5]; exact h3) (hQ _) (yields_move ho hg) (by rw [← h5]; exact any_float n ks _ rfl h4 hl hC h)
/-- Two moves are taken first. -/
theorem wp_region_float2 {id : Nat} {Q : Exit → Act → World → Prop} {a : Act} {w : World} {l : List Oper} (i j n m k : Nat) (ks : List Nat) (d d' : Option Tmp) (x y : Operand) (hm : P.follows .mixedOrders = true)
    (hi : moveAt l i d x) (hj : moveAt l j d' y)
    (hQ : ∀ v c a w, Q (.panic c) (a.put d v) w → Q (.panic c) a w) (hQ' : ∀ v c a w, Q (.panic c) (a.put d' v) w → Q (.panic c) a w)
    (hb : (Region.noSelect l.toArray && Region.free .any l.toArray (Array.replicate l.toArray.size false) i && (Region.ready .any l.toArray (Array.replicate l.toArray.size false)).contains i &&
      Region.free .any l.toArray ((Array.replicate l.toArray.size false).setIfInBounds i true) j && (Region.ready .any l.toArray ((Array.replicate l.toArray.size false).setIfInBounds i true)).contains j &&
      floatB .any l.toArray n ks (((Array.replicate l.toArray.size false).setIfInBounds i true).setIfInBounds j true) && decide (l.toArray.size = ((l.take m).eraseIdx k).length + (l.toArray.size - n) + 1 + 1)) = true)
    (hl : ((l.take m).eraseIdx k).map some = ks.map (fun k => l.toArray[k]?)) (hC : C { w with drawn := w.drawn + 1 })
    (h : wpQuiet P l.toArray C (fun a' => ∀ w', C w' → wpList P l.toArray Q (l.drop n) a' w') ((l.take m).eraseIdx k) ((a.put d (a.eval x)).put d' ((a.put d (a.eval x)).eval y))) : (Code.region id l.toArray true).wp P Q a w := by
  obtain ⟨oi, hi, ho, hg, rfl⟩ := hi
  obtain ⟨oj, hj, ho', hg', rfl⟩ := hj
  simp only [Bool.and_eq_true, decide_eq_true_eq] at hb
  obtain ⟨⟨⟨⟨⟨⟨h1, h2⟩, h3⟩, h2'⟩, h3'⟩, h4⟩, h5⟩ := hb
  refine wp_region_any hm ?_
  rw [h5]
  exact wpAny_take hi h1 (by rw [← h5]; exact h2) (by rw [← h5]; exact h3) (hQ _) (yields_move ho hg) (wpAny_take hj h1 (by rw [← h5]; exact h2') (by rw [← h5]; exact h3') (hQ' _) (yields_move ho' hg') (by rw [← h5]; exact any_float n ks _ rfl h4 hl hC h))
end
end Go.Proofs.Ytingeijodooocaa
