/- Chapter 14's queue, plain: the list of waiters in the order of tenants, falling priorities, rising jobs. No program is in sight. -/
import Derived.Below
namespace Go.Proofs.Ytingeijodooocaa
/-- A waiter. -/
structure Wt where
  job : Int
  ten : ByteArray
  pri : Int
def Wt.ky (a : Wt) : List UInt8 := a.ten.data.toList
theorem ten_eq {a b : ByteArray} (h : a.data.toList = b.data.toList) : a = b := by
  cases a; cases b
  rename_i x y
  cases x; cases y
  simp only at h
  rw [h]
def befQ (a b : Wt) : Prop := a.ky < b.ky ∨ (a.ky = b.ky ∧ (b.pri < a.pri ∨ (b.pri = a.pri ∧ a.job < b.job)))
instance (a b : Wt) : Decidable (befQ a b) := by unfold befQ; infer_instance
theorem lt_irr (l : List UInt8) : ¬ l < l := List.lt_irrefl l
theorem befQ_irr (a : Wt) : ¬ befQ a a := by
  unfold befQ
  rintro (h | ⟨-, h | ⟨-, h⟩⟩)
  · exact lt_irr _ h
  · omega
  · omega
theorem befQ_tr {a b c : Wt} (h : befQ a b) (k : befQ b c) : befQ a c := by
  unfold befQ at *
  rcases h with h | ⟨h, h2⟩
  · rcases k with k | ⟨k, k2⟩
    · exact .inl (List.lt_trans h k)
    · exact .inl (k ▸ h)
  · rcases k with k | ⟨k, k2⟩
    · exact .inl (h ▸ k)
    · exact .inr ⟨h.trans k, by omega⟩
theorem befQ_asy {a b : Wt} (h : befQ a b) : ¬ befQ b a := fun k => befQ_irr a (befQ_tr h k)
theorem befQ_tot {a b : Wt} (h : a.job ≠ b.job) : befQ a b ∨ befQ b a := by
  unfold befQ
  by_cases e : a.ky = b.ky
  · have e' := e.symm
    by_cases p : a.pri = b.pri
    · rcases Int.lt_or_gt_of_ne h with q | q
      · exact .inl (.inr ⟨e, .inr ⟨p.symm, q⟩⟩)
      · exact .inr (.inr ⟨e', .inr ⟨p, q⟩⟩)
    · rcases Int.lt_or_gt_of_ne p with q | q
      · exact .inr (.inr ⟨e', .inl q⟩)
      · exact .inl (.inr ⟨e, .inl q⟩)
  · by_cases q : a.ky < b.ky
    · exact .inl (.inl q)
    · have q2 : b.ky ≤ a.ky := List.not_lt.1 q
      by_cases r : b.ky < a.ky
      · exact .inr (.inl r)
      · exact absurd (List.le_antisymm (List.not_lt.1 r) q2) e
/-- The queue's list: in order, no job twice. -/
structure SrtQ (L : List Wt) : Prop where
  pw : L.Pairwise befQ
  jb : L.Pairwise fun a b => a.job ≠ b.job
def insQ (w : Wt) : List Wt → List Wt
  | [] => [w]
  | x :: t => if befQ w x then w :: x :: t else x :: insQ w t
theorem insQ_perm (w : Wt) (L : List Wt) : (insQ w L).Perm (w :: L) := by
  induction L with
  | nil => exact List.Perm.refl _
  | cons x t ih =>
    unfold insQ
    split
    · exact List.Perm.refl _
    · exact (List.Perm.cons x ih).trans (List.Perm.swap w x t)
theorem mem_insQ {w x : Wt} {L : List Wt} : x ∈ insQ w L ↔ x = w ∨ x ∈ L := by
  rw [(insQ_perm w L).mem_iff, List.mem_cons]
theorem SrtQ.ins {w : Wt} {L : List Wt} (h : SrtQ L) (hw : ∀ x ∈ L, x.job ≠ w.job) : SrtQ (insQ w L) := by
  obtain ⟨pw, jb⟩ := h
  constructor
  · induction L with
    | nil => exact List.pairwise_singleton _ _
    | cons x t ih =>
      rw [List.pairwise_cons] at pw jb
      unfold insQ
      split
      · rename_i hb
        rw [List.pairwise_cons]
        refine ⟨fun y hy => ?_, List.pairwise_cons.2 pw⟩
        rcases List.mem_cons.1 hy with e | e
        · rw [e]; exact hb
        · exact befQ_tr hb (pw.1 y e)
      · rename_i hb
        rw [List.pairwise_cons]
        refine ⟨fun y hy => ?_, ih (fun y hy => hw y (List.mem_cons_of_mem _ hy)) pw.2 jb.2⟩
        rcases mem_insQ.1 hy with e | e
        · rw [e]
          exact (befQ_tot (hw x List.mem_cons_self)).resolve_right hb
        · exact pw.1 y e
  · refine (insQ_perm w L).symm.pairwise (List.pairwise_cons.2 ⟨fun x hx => fun e => hw x hx e.symm, jb⟩) ?_
    intro a b h e
    exact h e.symm
def delQ (j : Int) (L : List Wt) : List Wt := L.filter fun x => decide (x.job ≠ j)
theorem SrtQ.del {L : List Wt} (h : SrtQ L) (j : Int) : SrtQ (delQ j L) := ⟨h.pw.filter _, h.jb.filter _⟩
theorem mem_delQ {j : Int} {x : Wt} {L : List Wt} : x ∈ delQ j L ↔ x ∈ L ∧ x.job ≠ j := by
  unfold delQ
  rw [List.mem_filter, decide_eq_true_eq]
/-- A tenant's waiters. -/
def lsQ (t : List UInt8) (L : List Wt) : List Wt := L.filter fun x => decide (x.ky = t)
theorem mem_lsQ {t : List UInt8} {x : Wt} {L : List Wt} : x ∈ lsQ t L ↔ x ∈ L ∧ x.ky = t := by
  unfold lsQ
  rw [List.mem_filter, decide_eq_true_eq]
theorem SrtQ.ls {L : List Wt} (h : SrtQ L) (t : List UInt8) : SrtQ (lsQ t L) := ⟨h.pw.filter _, h.jb.filter _⟩
theorem SrtQ.eq {L : List Wt} (h : SrtQ L) {a b : Wt} (ha : a ∈ L) (hb : b ∈ L) (e : a.job = b.job) : a = b := by
  induction L with
  | nil => cases ha
  | cons x t ih =>
    have jb := List.pairwise_cons.1 h.jb
    rcases List.mem_cons.1 ha with q | q <;> rcases List.mem_cons.1 hb with r | r
    · rw [q, r]
    · rw [q] at e; exact absurd e (jb.1 b r)
    · rw [r] at e; exact absurd e.symm (jb.1 a q)
    · exact ih ⟨(List.pairwise_cons.1 h.pw).2, jb.2⟩ q r
/-- What is in order is known by its members. -/
theorem SrtQ.unique : ∀ {L M : List Wt}, SrtQ L → SrtQ M → (∀ x, x ∈ L ↔ x ∈ M) → L = M
  | [], [], _, _, _ => rfl
  | [], y :: M, _, _, h => by cases (h y).2 List.mem_cons_self
  | x :: L, [], _, _, h => by cases (h x).1 List.mem_cons_self
  | x :: L, y :: M, hL, hM, h => by
    have pL := List.pairwise_cons.1 hL.pw
    have pM := List.pairwise_cons.1 hM.pw
    have e : x = y := by
      rcases List.mem_cons.1 ((h x).1 List.mem_cons_self) with q | q
      · exact q
      · rcases List.mem_cons.1 ((h y).2 List.mem_cons_self) with r | r
        · exact r.symm
        · exact absurd (pL.1 y r) (befQ_asy (pM.1 x q))
    subst e
    congr 1
    refine SrtQ.unique ⟨pL.2, (List.pairwise_cons.1 hL.jb).2⟩ ⟨pM.2, (List.pairwise_cons.1 hM.jb).2⟩ fun z => ⟨fun hz => ?_, fun hz => ?_⟩
    · rcases List.mem_cons.1 ((h z).1 (List.mem_cons_of_mem _ hz)) with q | q
      · exact absurd (q ▸ pL.1 z hz) (befQ_irr _)
      · exact q
    · rcases List.mem_cons.1 ((h z).2 (List.mem_cons_of_mem _ hz)) with q | q
      · exact absurd (q ▸ pM.1 z hz) (befQ_irr _)
      · exact q
end Go.Proofs.Ytingeijodooocaa
