/- Chapter 14's queue in memory: the maps, the heaps, and the list. -/
import Derived.Test.YtingeijodooocaaQuM
namespace Go.Proofs.Ytingeijodooocaa
open Go.RowKit
theorem head_least {M : List Wt} {w0 : Wt} (h : SrtQ M) (hw : w0 ∈ M) (hb : ∀ x ∈ M, x = w0 ∨ befQ w0 x) : M.head? = some w0 := by
  cases M with
  | nil => cases hw
  | cons y t =>
    have pw := List.pairwise_cons.1 h.pw
    rcases List.mem_cons.1 hw with q | q
    · rw [q]; rfl
    · rcases hb y List.mem_cons_self with r | r
      · rw [r]; rfl
      · exact absurd r (befQ_asy (pw.1 w0 q))
/-- A tenant's heap: its block, its rows, its content. -/
structure Hd where
  H : Nat
  va : Value
  vk : Value
  vs : Value
  S : Mm
def Hd.foot (d : Hd) (b : Nat) : Prop := FootM d.H d.va d.vk d.vs b
/-- The queue in memory: L is its list, c bounds the handles. -/
structure QuV (B : Nat) (w : World) (q : Nat) (m : Option (Nat × Nat)) (nA : Nat) (A : WMap) (nH : Nat) (Hm : HMap) (D : List UInt8 → Hd) (L : List Wt) (c : Nat) : Prop where
  r : QuR B w q m nA A nH Hm
  hp : ∀ t b, Hm t = some b → b = some (D t).H ∧ MmV B w (D t).H (D t).va (D t).vk (D t).vs (D t).S ∧ Lnk (D t).S ∧ Ivl (LtM (D t).S.k) (D t).S.n (D t).S.e ∧ 0 < (D t).S.n ∧ (D t).S.m ≤ c
  ap : ∀ t u b b', Hm t = some b → Hm u = some b' → t ≠ u → ∀ k, (D t).foot k → ¬ (D u).foot k
  aq : ∀ t b, Hm t = some b → ∀ k, (D t).foot k → k ≠ q ∧ ∀ bm bh, m = some (bm, bh) → k ≠ bm ∧ k ≠ bh
  live : ∀ t b, Hm t = some b → ∀ x, x < (D t).S.m → (D t).S.s x ≠ 0 → ∃ j v, A j = some (v, x) ∧ v.ky = t
  held : ∀ j v x, A j = some (v, x) → (∃ b, Hm v.ky = some b) ∧ x < (D v.ky).S.m ∧ (D v.ky).S.s x ≠ 0 ∧ (D v.ky).S.k x = (-v.pri, v.job, 0)
  job : ∀ j v x, A j = some (v, x) → v.job = j ∧ 1 ≤ j ∧ j ≤ 100 ∧ 0 ≤ v.pri ∧ v.pri ≤ 100 ∧ v.ten.size ≤ maxLen
  srt : SrtQ L
  mem : ∀ v, v ∈ L ↔ ∃ x, A v.job = some (v, x)
  len : nA = L.length
  cnt : nH ≤ c ∧ c ≤ 1000
variable {B q nA nH c : Nat} {w w' : World} {m : Option (Nat × Nat)} {A : WMap} {Hm : HMap} {D : List UInt8 → Hd} {L : List Wt}
theorem QuV.below (h : QuV B w q m nA A nH Hm D L c) (hb : Below w.heap.size w w') : QuV B w' q m nA A nH Hm D L c :=
  { h with r := h.r.below hb, hp := fun t b e => by obtain ⟨a1, a2, a3⟩ := h.hp t b e; exact ⟨a1, a2.below hb, a3⟩ }
/-- A tenant has a heap just when it waits. -/
theorem QuV.has (h : QuV B w q m nA A nH Hm D L c) (t : List UInt8) : (∃ b, Hm t = some b) ↔ ∃ v ∈ L, v.ky = t := by
  constructor
  · rintro ⟨b, hb⟩
    obtain ⟨-, -, hl, -, hn, -⟩ := h.hp t b hb
    have a0 := hl.at_ 0 hn
    obtain ⟨j, v, hj, hv⟩ := h.live t b hb _ a0.1 (by rw [a0.2]; omega)
    have := (h.job j v _ hj).1
    exact ⟨v, (h.mem v).2 ⟨_, by rw [this]; exact hj⟩, hv⟩
  · rintro ⟨v, hv, rfl⟩
    obtain ⟨x, hx⟩ := (h.mem v).1 hv
    exact (h.held _ v x hx).1
/-- The first of a tenant's waiters is the heap's least. -/
theorem QuV.first (h : QuV B w q m nA A nH Hm D L c) {t : List UInt8} {b : Option Nat} (hb : Hm t = some b) :
    ∃ v, A v.job = some (v, (D t).S.e 0) ∧ v ∈ L ∧ v.ky = t ∧ (lsQ t L).head? = some v ∧ (D t).S.k ((D t).S.e 0) = (-v.pri, v.job, 0) := by
  obtain ⟨-, -, hl, hi, hn, -⟩ := h.hp t b hb
  have a0 := hl.at_ 0 hn
  obtain ⟨j, v, hj, hv⟩ := h.live t b hb _ a0.1 (by rw [a0.2]; omega)
  have hjj := (h.job j v _ hj).1
  rw [← hjj] at hj
  have hm : v ∈ L := (h.mem v).2 ⟨_, hj⟩
  have hk := (h.held _ v _ hj).2.2.2
  rw [hv] at hk
  refine ⟨v, hj, hm, hv, head_least (h.srt.ls t) (mem_lsQ.2 ⟨hm, hv⟩) (fun y hy => ?_), hk⟩
  obtain ⟨hyL, hyt⟩ := mem_lsQ.1 hy
  obtain ⟨x, hx⟩ := (h.mem y).1 hyL
  obtain ⟨-, hxm, hxs, hxk⟩ := h.held _ y x hx
  rw [hyt] at hxm hxs hxk
  obtain ⟨p, -, hp, hpe⟩ := hl.place hxm hxs
  rcases hi.least (sto_ltM _) p hp with q0 | q0
  · left
    rw [q0] at hpe
    rw [hpe] at hk
    have e : v.job = y.job := by
      have := hxk.symm.trans hk
      injection this with _ e2
      injection e2 with e2 _
      exact e2.symm
    exact (h.srt.eq hm hyL e).symm
  · rw [hpe, ltM_iff, hk, hxk] at q0
    simp only at q0
    by_cases e : v.job = y.job
    · exact .inl (h.srt.eq hm hyL e).symm
    · right
      unfold befQ
      refine .inr ⟨hv.trans hyt.symm, ?_⟩
      omega
end Go.Proofs.Ytingeijodooocaa
