/- Chapter 14's queue beside protected blocks; plain: what is left when heads are taken out one by one. -/
import Derived.Test.YtingeijodooocaaQuJ
namespace Go.Proofs.Ytingeijodooocaa
open Go.RowKit
/-- The queue, none of whose blocks is protected. -/
structure QP (w0 w : World) (q : Nat) (L : List Wt) (c : Nat) (P : Nat → Prop) : Prop where
  ex : ∃ F, QB w0.heap.size w q L c F ∧ ∀ k, F k → ¬ P k
  bel : Below w0.heap.size w0 w
variable {w0 w w' : World} {q c : Nat} {L : List Wt} {F P P' : Nat → Prop}
theorem QP.qs (h : QP w0 w q L c P) : QS w0 w q L c := by
  obtain ⟨⟨F, h1, -⟩, h2⟩ := h
  exact ⟨⟨F, h1⟩, h2⟩
theorem QP.of (h : QS w0 w q L c) : QP w0 w q L c (fun _ => False) := by
  obtain ⟨⟨F, h1⟩, h2⟩ := h
  exact ⟨⟨F, h1, fun _ _ h => h⟩, h2⟩
theorem QP.weak (h : QP w0 w q L c P) (e : ∀ k, P' k → P k) : QP w0 w q L c P' := by
  obtain ⟨⟨F, h1, h3⟩, h2⟩ := h
  exact ⟨⟨F, h1, fun k hk hp => h3 k hk (e k hp)⟩, h2⟩
/-- Behind a call that made blocks: these can be protected. -/
theorem QP.add (h : QP w0 w q L c P) (hb : Below w.heap.size w w') (e : ∀ k, P' k → P k ∨ w.heap.size ≤ k) : QP w0 w' q L c P' := by
  obtain ⟨⟨F, h1, h3⟩, h2⟩ := h
  refine ⟨⟨F, h1.below hb, fun k hk hp => ?_⟩, h2.trans (hb.mono h2.size)⟩
  rcases e k hp with q1 | q1
  · exact h3 k hk q1
  · have := (h1.foot hk).2; omega
theorem QP.below (h : QP w0 w q L c P) (hb : Below w.heap.size w w') : QP w0 w' q L c P := h.add hb fun _ h => .inl h
/-- The protected blocks stand. -/
def Std (P : Nat → Prop) (w w' : World) : Prop := w.heap.size ≤ w'.heap.size ∧ ∀ k, P k → k < w.heap.size → w'.heap[k]? = w.heap[k]?
theorem QP.next {L' : List Wt} {c' : Nat} (h : QB w0.heap.size w q L c F) (h3 : ∀ k, F k → ¬ P k) (h2 : Below w0.heap.size w0 w) (hn : QN w0.heap.size w w' q L' c' F) (hp : ∀ k, P k → k < w.heap.size) : QP w0 w' q L' c' P ∧ Std P w w' := by
  obtain ⟨F', q1, q2, q3⟩ := hn
  refine ⟨⟨⟨F', q1, fun k hk hk2 => ?_⟩, h2.trans (q2.below h2.size fun k hk => (h.foot hk).1)⟩, q2.size, fun k k1 k2 => q2.kept k k2 (fun hk => h3 k hk k1)⟩
  rcases q3 k hk with e | e
  · exact h3 k e hk2
  · have := hp k hk2; omega
theorem qp_push (h : QP w0 w q L c P) (hp : ∀ k, P k → k < w.heap.size) {v : Wt} (hs : v.ten.size ≤ maxLen) (hc : c + 1 ≤ 1000) :
    Calls Try.prog 10 #[.pointer (some ⟨q, 0, none⟩), wtV v] w fun e w' => e = .returned (.int .i64 (errQ L v)) ∧ QP w0 w' q (pushQ L v) (c + 1) P ∧ Std P w w' := by
  obtain ⟨⟨F, h1, h3⟩, h2⟩ := h
  refine (qb_push h1 hs hc h2.size).mono ?_
  rintro e w' ⟨rfl, hn⟩
  exact ⟨rfl, QP.next h1 h3 h2 hn hp⟩
theorem qp_rem (h : QP w0 w q L c P) (hp : ∀ k, P k → k < w.heap.size) (j : Int) (hj : (Lit.int .i64 j).wf = true) :
    Calls Try.prog 17 #[.pointer (some ⟨q, 0, none⟩), .int .i64 j] w fun e w' => e = .returned (.int .i64 (remE L j)) ∧ QP w0 w' q (delQ j L) c P ∧ Std P w w' := by
  obtain ⟨⟨F, h1, h3⟩, h2⟩ := h
  refine (qb_rem h1 j hj).mono ?_
  rintro e w' ⟨rfl, hn⟩
  exact ⟨rfl, QP.next h1 h3 h2 hn hp⟩
theorem Std.row {z n B : Nat} {T : TypeId} {v : Value} {xs : List Value} (h : Std P w w') (hr : w.ownsRow B T z v n xs) (e : ∀ b, v.ownBlock = some b → P b) : w'.ownsRow B T z v n xs :=
  rowR_kept hr fun b hb => h.2 b (e b hb) (hr.lt b hb).2
/-! plain -/
theorem ls_del (s : List UInt8) (j : Int) (L : List Wt) : lsQ s (delQ j L) = delQ j (lsQ s L) := by
  unfold lsQ delQ
  rw [List.filter_filter, List.filter_filter]
  congr 1
  funext x
  rw [Bool.and_comm]
theorem ls_del_other (h : SrtQ L) {v : Wt} (hv : v ∈ L) {s : List UInt8} (hs : v.ky ≠ s) : lsQ s (delQ v.job L) = lsQ s L := by
  rw [ls_del]
  refine del_no fun x hx e => ?_
  obtain ⟨h1, h2⟩ := mem_lsQ.1 hx
  rw [h.eq h1 hv e] at h2
  exact hs h2
theorem ls_del_same (h : SrtQ L) {v : Wt} {s : List UInt8} {M : List Wt} (e : lsQ s L = v :: M) : lsQ s (delQ v.job L) = M := by
  have hs := h.ls s
  rw [e] at hs
  have p := List.pairwise_cons.1 hs.jb
  rw [ls_del, e]
  unfold delQ
  rw [List.filter_cons_of_neg (by simp)]
  exact del_no fun x hx e2 => p.1 x hx e2.symm
/-- The first i tenants are emptied, of tenant i all but 'here' are gone. -/
structure In (L0 : List Wt) (ks : List (List UInt8)) (i : Nat) (t : List UInt8) (M : List Wt) (L : List Wt) : Prop where
  here : lsQ t L = M
  rest : ∀ j s, i < j → ks[j]? = some s → lsQ s L = lsQ s L0
  gone : ∀ j s, j < i → ks[j]? = some s → lsQ s L = []
  sub : ∀ v ∈ L, v ∈ L0
structure Ot (L0 : List Wt) (ks : List (List UInt8)) (i : Nat) (L : List Wt) : Prop where
  rest : ∀ j s, i ≤ j → ks[j]? = some s → lsQ s L = lsQ s L0
  gone : ∀ j s, j < i → ks[j]? = some s → lsQ s L = []
  sub : ∀ v ∈ L, v ∈ L0
variable {L0 M : List Wt} {ks : List (List UInt8)} {i : Nat} {t : List UInt8} {v : Wt}
theorem Ot.start (L0 : List Wt) (ks : List (List UInt8)) : Ot L0 ks 0 L0 := ⟨fun _ _ _ _ => rfl, fun j _ h _ => absurd h (Nat.not_lt_zero j), fun _ h => h⟩
theorem Ot.enter (h : Ot L0 ks i L) (ht : ks[i]? = some t) : In L0 ks i t (lsQ t L0) L :=
  ⟨h.rest i t (Nat.le_refl _) ht, fun j s hj hs => h.rest j s (Nat.le_of_lt hj) hs, h.gone, h.sub⟩
theorem In.step (h : In L0 ks i t (v :: M) L) (hk : ks.Pairwise (· < ·)) (ht : ks[i]? = some t) (hs : SrtQ L) : In L0 ks i t M (delQ v.job L) := by
  have hv : v ∈ lsQ t L := by rw [h.here]; exact List.mem_cons_self
  obtain ⟨hvL, hvt⟩ := mem_lsQ.1 hv
  have ne : ∀ j s, j ≠ i → ks[j]? = some s → v.ky ≠ s := fun j s hj hs e => by
    rw [hvt] at e
    obtain ⟨h1, h2⟩ := List.getElem?_eq_some_iff.1 ht
    obtain ⟨h3, h4⟩ := List.getElem?_eq_some_iff.1 hs
    rcases Nat.lt_or_gt_of_ne hj with q | q
    · have := List.pairwise_iff_getElem.1 hk j i h3 h1 q
      rw [h2, h4, ← e] at this
      exact lt_irr _ this
    · have := List.pairwise_iff_getElem.1 hk i j h1 h3 q
      rw [h2, h4, ← e] at this
      exact lt_irr _ this
  exact ⟨ls_del_same hs h.here, fun j s hj hsj => (ls_del_other hs hvL (ne j s (by omega) hsj)).trans (h.rest j s hj hsj), fun j s hj hsj => (ls_del_other hs hvL (ne j s (by omega) hsj)).trans (h.gone j s hj hsj), fun x hx => h.sub x (mem_delQ.1 hx).1⟩
theorem In.leave (h : In L0 ks i t [] L) (ht : ks[i]? = some t) : Ot L0 ks (i + 1) L := by
  refine ⟨fun j s hj hs => h.rest j s hj hs, fun j s hj hs => ?_, h.sub⟩
  by_cases e : j = i
  · rw [e, ht] at hs
    injection hs with hs
    rw [← hs]; exact h.here
  · exact h.gone j s (by omega) hs
theorem Ot.fin (h : Ot L0 ks ks.length L) (hk : IsTn L0 ks) : L = [] := by
  cases L with
  | nil => rfl
  | cons v t =>
    have hv := h.sub v List.mem_cons_self
    obtain ⟨j, hj, e⟩ := List.mem_iff_getElem.1 ((hk.mem v.ky).2 ⟨v, hv, rfl⟩)
    have h1 := h.gone j v.ky hj (by rw [List.getElem?_eq_getElem hj, e])
    have h2 : v ∈ lsQ v.ky (v :: t) := mem_lsQ.2 ⟨List.mem_cons_self, rfl⟩
    rw [h1] at h2
    cases h2
end Go.Proofs.Ytingeijodooocaa
