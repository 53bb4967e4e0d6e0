/- maps.Values over the table's nodes, and slices.Collect of it: a row of the nodes, each once, in some order. -/
import Derived.Test.YtkplhobiciddoaaWk2
import Derived.RangeFuncNested
import Derived.RangeFuncLeaves
import Derived.RangeFuncBox
import Derived.RangeFuncGives
import Derived.Sort.MapsRangeIn
import Derived.Shelf.Abstract
import Derived.WalkKit
import Derived.OwnWalkIn
import Derived.TacticsInMore
import Derived.LoopNIn
import Derived.LoopIn
import Derived.Maps.AppendAt
namespace Go.Proofs.Ytkplhobiciddoaa
open Go.RowKit Go.Maps Go.WideShapes
section
variable {α : Type} {P : Program} {k : TypeId} {mk : α → Value} {w : World} {b n : Nat} {A : List UInt8 → Option α} {F : Fence} {nF : Nat} {ops : Array Oper} {rest : List Oper} {o : Oper} {a : Act} {Q : Exit → Act → World → Prop}
theorem wpListIn_range_M (hg : o.guard = none) (m : Operand) (t : TypeId) (hop : o.op = Op.range t m) (e : TypeId) (hk : P.underlying k = some .string) (ht : P.underlying t = some (.map k e)) (hm : a.eval m = .map (some b)) (h : OwnsM w P k mk b n A)
    (hK : ∀ w', RangesM w' P k mk b w.heap.size n A (fun l => (A l).isSome) n → w.grownBy w' none → w'.heap.size = w.heap.size + 1 → wpListIn F nF P ops Q rest (a.put o.dst (.pointer (some ⟨w.heap.size, 0, none⟩))) w') :
    wpListIn F nF P ops Q (o :: rest) a w := by
  refine wpListIn_plain hg fun K' hK' => ?_
  obtain ⟨w', hrun, r1, r2, r3⟩ := h.range hk ht
  unfold Oper.wpIn
  refine ⟨?_, ?_⟩
  · simp [Oper.about, hop]
  · rw [Oper.semAt_plain F _ _ (by rw [hop]; intro c hc'; cases hc')]
    simp [execOp, hop, hm, hrun, Result.andThen]
    exact hK' _ _ (hK w' r1 r2 r3)
theorem wpListIn_next_M {left : List UInt8 → Bool} {cnt r : Nat} (hg : o.guard = none) (it : Operand) (hop : o.op = Op.next it false) (hk : P.underlying k = some .string) (hit : a.eval it = .pointer (some ⟨r, 0, none⟩)) (h : RangesM w P k mk b r n A left cnt)
    (hDone : (∀ l, left l = false) → wpListIn F nF P ops Q rest (a.put o.dst (.tuple #[.bool false])) w)
    (hMore : ∀ (s : ByteArray) (x : α) (w' : World) (cnt' : Nat), left s.data.toList = true → A s.data.toList = some x → RangesM w' P k mk b r n A (fun l => left l && !decide (l = s.data.toList)) cnt' → cnt' < cnt → w.grownBy w' (some r) →
      (Instr.entry (.pointer (some ⟨r, 0, none⟩))).run P w' = .ok (.tuple #[.string s, mk x]) w' → wpListIn F nF P ops Q rest (a.put o.dst (.tuple #[.bool true, .string s, mk x])) w') :
    wpListIn F nF P ops Q (o :: rest) a w := by
  refine wpListIn_plain hg fun K' hK' => ?_
  unfold Oper.wpIn
  refine ⟨by simp [Oper.about, hop], ?_⟩
  rw [Oper.semAt_plain F _ _ (by rw [hop]; intro c hc'; cases hc')]
  rcases h.next hk o.type with ⟨h0, hl, hrun⟩ | ⟨s, x, w', cnt', hs, hl, hA, hrun, hr, hc, hg', hsz, hen⟩
  · simp [execOp, hop, hit, hrun, Result.andThen]
    exact hK' _ _ (hDone hl)
  · simp [execOp, hop, hit, hrun, Result.andThen]
    exact hK' _ _ (hMore s x w' cnt' hl hA hr hc hg' hen)
theorem RangesM.of_walks {w' : World} {left : List UInt8 → Bool} {cnt r : Nat} (h : RangesM w P k mk b r n A left cnt) (hk : KeepsWalks w w') : RangesM w' P k mk b r n A left cnt := by
  obtain ⟨es, c, hb⟩ := h.owns.isMap
  obtain ⟨s, sn, c2, hr⟩ := h.iter
  exact h.at ((hk.same b _ hb rfl).trans hb.symm) ((hk.same r _ hr rfl).trans hr.symm)
theorem RangesM.iter_walk {left : List UInt8 → Bool} {cnt r : Nat} (h : RangesM w P k mk b r n A left cnt) : ∃ o : Obj, w.heap[r]? = some o ∧ o.isWalk = true := by
  obtain ⟨s, sn, c2, hr⟩ := h.iter
  exact ⟨_, hr, rfl⟩
end
/-- What has come of a list's nodes. -/
structure Got (L : List Nd) (left : List UInt8 → Bool) (ss : List Nd) : Prop where
  mem : ∀ x ∈ ss, x ∈ L
  nd : ss.Nodup
  all : ∀ k, left k = true ↔ (fnd L k).isSome = true ∧ ∀ x ∈ ss, ky x.name ≠ k
theorem Got.start (L : List Nd) : Got L (fun k => (fnd L k).isSome) [] := ⟨(fun _ h => nomatch h), List.nodup_nil, fun k => by simp⟩
theorem Got.step {L : List Nd} {left : List UInt8 → Bool} {ss : List Nd} (h : Got L left ss) {s : ByteArray} {x : Nd} (hl : left (ky s) = true) (hA : fnd L (ky s) = some x) : Got L (fun k => left k && !decide (k = ky s)) (ss ++ [x]) := by
  obtain ⟨hm, hk⟩ := mem_of_fnd hA
  have hn := ((h.all _).1 hl).2
  refine ⟨fun y hy => ?_, ?_, fun k => ?_⟩
  · rcases List.mem_append.1 hy with hy | hy
    · exact h.mem y hy
    · rw [List.mem_singleton] at hy; subst hy; exact hm
  · rw [List.nodup_append]
    refine ⟨h.nd, by simp, fun y hy z hz e => ?_⟩
    rw [List.mem_singleton] at hz
    subst hz e
    exact hn y hy hk
  · simp only [Bool.and_eq_true, Bool.not_eq_true', decide_eq_false_iff_not, h.all, List.mem_append, List.mem_singleton]
    constructor
    · rintro ⟨⟨h1, h2⟩, h3⟩
      refine ⟨h1, fun y hy => ?_⟩
      rcases hy with hy | rfl
      · exact h2 y hy
      · rw [hk]; exact fun e => h3 e.symm
    · rintro ⟨h1, h2⟩
      exact ⟨⟨h1, fun y hy => h2 y (.inl hy)⟩, fun e => h2 x (.inr rfl) (by rw [hk, e])⟩
theorem Got.perm {L : List Nd} {left : List UInt8 → Bool} {ss : List Nd} (h : Got L left ss) (hr : Rising L) (hl : ∀ k, left k = false) : ss.Perm L := by
  have hL : L.Nodup := List.Pairwise.imp (fun {a b} hab e => by rw [e, ltS_irr] at hab; cases hab) hr
  refine (List.perm_ext_iff_of_nodup h.nd hL).2 fun x => ⟨h.mem x, fun hx => ?_⟩
  refine Classical.byContradiction fun hn => ?_
  have h1 := (h.all (ky x.name)).2 ⟨by rw [fnd_of_mem hr hx]; rfl, fun y hy e => ?_⟩
  · rw [hl] at h1; cases h1
  · have := fnd_of_mem hr (h.mem y hy)
    rw [e, fnd_of_mem hr hx] at this
    cases this
    exact hn hy
def flatN : List Nd → List Value
  | [] => []
  | x :: l => cellsN x ++ flatN l
theorem flatN_length (l : List Nd) : (flatN l).length = l.length * 8 := by
  induction l with
  | nil => rfl
  | cons v l ih => simp only [flatN, List.length_append, List.length_cons, ih, cellsN, List.length_nil]; omega
theorem flatN_append (l l' : List Nd) : flatN (l ++ l') = flatN l ++ flatN l' := by
  induction l with
  | nil => rfl
  | cons v l ih => simp [flatN, ih]
theorem cellsN_one (x : Nd) : ∀ u ∈ cellsN x, u.oneCell' = true := by
  intro u h
  simp only [cellsN, List.mem_cons, List.not_mem_nil, or_false] at h
  rcases h with rfl | rfl | rfl | rfl | rfl | rfl | rfl | rfl <;> rfl
set_option maxRecDepth 100000 in
set_option maxHeartbeats 1000000 in
/-- maps.Values's iterator over the nodes. -/
theorem values1_in (F : Fence) (n : Nat) (hf : F.fn 47) (hro : F.round = none) (hn : 1 ≤ n) (l Bm b : Nat) (L : List Nd) (hr : Rising L) (J Jx : List Nd → World → Prop)
    (hY : ∀ pre x W, J pre W → pre.length < L.length → YieldAt F (n - 1) Try.prog l #[ndV x] W fun e W' => (e = .returned (.bool true) ∧ J (pre ++ [x]) W' ∧ KeepsWalks W W') ∨ (e = .returned (.bool false) ∧ Jx (pre ++ [x]) W'))
    (W : World) (hJ : AbidesFrom W.heap.size J) (hm : W.cell? ⟨Bm, 0, none⟩ = some (.map (some b))) (hown : NodM W (some b) L) (h0 : J [] W) :
    CallsIn F n Try.prog 47 #[.func (.yield l) #[] #[], .pointer (some ⟨Bm, 0, none⟩)] W fun e W' => (∃ v, e = .returned v) ∧ ((∃ ss : List Nd, ss.Perm L ∧ J ss W') ∨ (∃ pre, True ∧ Jx pre W')) := by
  refine callsIn_of_wp Try.func47 rfl hf ?_ hro
  simp only [Try.ntmps47, List.size_toArray, List.length_cons, List.length_nil, Nat.reduceAdd, Nat.reduceSub, Array.replicate_succ, Array.replicate_zero, List.push_toArray, List.append_toArray, List.nil_append, List.cons_append]
  gi_wp2_with (first
    | (gi_at_range; refine wpListIn_range_M rfl _ 57 rfl 34 Try.underlying9 Try.underlying57 rfl (hown : OwnsM W Try.prog 9 ndV b L.length (fnd L)) ?_; intro w0 hrg0 hg0 hs0)
    | gi_in)
  go_frame
  gi_loopw [4] (fun _ wr => ∃ (left : List UInt8 → Bool) (cnt : Nat) (ss : List Nd), RangesM wr Try.prog 9 ndV b W.heap.size L.length (fnd L) left cnt ∧ ss.length + cnt ≤ L.length ∧ Got L left ss ∧ J ss wr)
    (fun _ wr => wr.rangeLeft b W.heap.size)
  case atStart =>
    exact ⟨_, _, [], hrg0, by simp, Got.start L, hJ [] W w0 none h0 hg0 (fun r e => by cases e)⟩
  case round =>
    obtain ⟨left, cnt, ss, hrg, hcs, hC, hJs⟩ := hrel
    gi_wp2_with (first
      | (gi_at_next; refine wpListIn_next_M rfl _ rfl Try.underlying9 rfl hrg ?_ ?_)
      | gi_in)
    · intro hl0
      gi_wp2
      go_end0
      exact ⟨⟨_, rfl⟩, .inl ⟨ss, hC.perm hr hl0, hJs⟩⟩
    · intro s x w2 cnt2 hlk hat hrg2 hlt hg2 hen
      have hJ2 : J ss w2 := hJ ss wr w2 (some W.heap.size) hJs hg2 (fun r e => by cases e; exact ⟨Nat.le_refl _, hrg.iter_walk⟩)
      have hJ3 : J ss (w2.alloc (.cells (cellsN x).toArray 34 (0, 0))) := hJ ss w2 _ none hJ2 (World.grownBy_alloc _ _ none) (fun r e => by cases e)
      obtain ⟨fn, tmps, assign, body, hy, hR⟩ := hY ss x (w2.alloc (.cells (cellsN x).toArray 34 (0, 0))) hJ3 (by omega)
      have hgot := hC.step hlk hat
      simp only [ndV, cellsN] at hen hy hR
      clear hJ2 hJ3
      gi_wp2
      refine hR.mono ?_
      rintro e W3 (⟨rfl, hJ4, hk3⟩ | ⟨rfl, hJx3⟩)
      · gi_wp2
        have hrg3 : RangesM W3 Try.prog 9 ndV b W.heap.size L.length (fnd L) _ cnt2 := (hrg2.of_walks (KeepsWalks.alloc _ _)).of_walks hk3
        go_roundw
        case rel => exact ⟨_, cnt2, ss ++ [x], hrg3, by simp; omega, hgot, hJ4⟩
        case measure => rw [hrg3.left_eq, hrg.left_eq]; exact hlt
      · gi_wp2
        refine bodyPost_ret (results_none rfl _ _ _) rfl ?_
        exact ⟨⟨_, rfl⟩, .inr ⟨_, trivial, hJx3⟩⟩
set_option maxRecDepth 100000 in
set_option maxHeartbeats 1000000 in
theorem values1_nil (F : Fence) (n : Nat) (hf : F.fn 47) (hro : F.round = none) (l Bm : Nat) (J : List Nd → World → Prop) (W : World) (hJ : AbidesFrom W.heap.size J)
    (hm : W.cell? ⟨Bm, 0, none⟩ = some (.map none)) (h0 : J [] W) :
    CallsIn F n Try.prog 47 #[.func (.yield l) #[] #[], .pointer (some ⟨Bm, 0, none⟩)] W fun e W' => (∃ v, e = .returned v) ∧ J [] W' := by
  refine callsIn_of_wp Try.func47 rfl hf ?_ hro
  simp only [Try.ntmps47, List.size_toArray, List.length_cons, List.length_nil, Nat.reduceAdd, Nat.reduceSub, Array.replicate_succ, Array.replicate_zero, List.push_toArray, List.append_toArray, List.nil_append, List.cons_append]
  have hrg := run_range_nilMap (P := Try.prog) W 57 9 34 Try.underlying57
  have hnx : ∀ ty, (Instr.next (.pointer (some ⟨W.heap.size, 0, none⟩)) false ty).run Try.prog (W.alloc (.mapIter none 0 #[] 0)) = _ := fun ty => run_next_nilMap _ ty 0 0 #[]
  gi_wp2
  refine wpIn_loop_rounds 1 ?_
  rw [roundsIn_succ]
  gi_wp2
  go_end0
  exact ⟨⟨_, rfl⟩, hJ [] W _ none h0 (World.grownBy_alloc W _ none) (fun r e => by cases e)⟩
set_option maxHeartbeats 1000000 in
theorem values_in (F : Fence) (n : Nat) (hf : F.fn 30) (hro : F.round = none) (mb : Option Nat) (w : World) :
    CallsIn F n Try.prog 30 #[.map mb] w fun e w' => e = .returned (.func (.func 47) #[] #[.pointer (some ⟨w.heap.size, 0, none⟩)]) ∧ w' = w.alloc (.cells #[.map mb] 57) := by
  refine callsIn_of_wp Try.func30 rfl hf ?_ hro
  simp only [Try.ntmps30, List.size_toArray, List.length_cons, List.length_nil, Nat.reduceAdd, Nat.reduceSub, Array.replicate_succ, Array.replicate_zero, List.push_toArray, List.append_toArray, List.nil_append, List.cons_append]
  gi_wp2
  go_ret
  exact ⟨rfl, rfl⟩
/-- What maps.Values hands back gives the nodes. -/
theorem values_stops (F : Fence) (n : Nat) (hf : F.fn 47) (hro : F.round = none) (hn : 1 ≤ n) (Bm : Nat) (nm : Option Nat) (L : List Nd) (hr : Rising L) (w : World) (hBm : Bm < w.heap.size)
    (hm : w.cell? ⟨Bm, 0, none⟩ = some (.map nm)) (hown : NodM w nm L) :
    SeqStopsK F n Try.prog 47 #[.pointer (some ⟨Bm, 0, none⟩)] (fun x : Nd => #[ndV x]) KeepsWalks (fun ss => ss.Perm L) (fun _ => True) L.length w := fun l J Jx W hW hJ _ hY h0 => by
  cases nm with
  | none =>
    obtain rfl : L = [] := hown
    exact (values1_nil F n hf hro l Bm J W hJ ((hW.cell (p := ⟨Bm, 0, none⟩) hBm).trans hm) h0).mono fun _ _ ⟨he, hj⟩ => ⟨he, .inl ⟨[], List.Perm.refl _, hj⟩⟩
  | some b => exact values1_in F n hf hro hn l Bm b L hr J Jx hY W hJ ((hW.cell (p := ⟨Bm, 0, none⟩) hBm).trans hm) (hown.at (fun b' e => by cases e; exact hW.block b hown.lt)) h0
end Go.Proofs.Ytkplhobiciddoaa
