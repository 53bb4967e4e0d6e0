/- Chapter 14's queue: what Remove makes of the relation. -/
import Derived.Test.YtingeijodooocaaQuP
namespace Go.Proofs.Ytingeijodooocaa
open Go.RowKit
variable {B q nA nH c : Nat} {w w' : World} {m : Option (Nat × Nat)} {A : WMap} {Hm : HMap} {D : List UInt8 → Hd} {L : List Wt}
theorem delQ_len {v : Wt} {L : List Wt} (h : SrtQ L) (hv : v ∈ L) : (delQ v.job L).length + 1 = L.length := by
  induction L with
  | nil => cases hv
  | cons x t ih =>
    have jb := List.pairwise_cons.1 h.jb
    have ht : SrtQ t := ⟨(List.pairwise_cons.1 h.pw).2, jb.2⟩
    unfold delQ at *
    by_cases e : x.job = v.job
    · have all : t.filter (fun y => decide (y.job ≠ v.job)) = t := List.filter_eq_self.2 fun y hy => by
        have := jb.1 y hy
        rw [e] at this
        simpa using fun r => this r.symm
      rw [List.filter_cons_of_neg (by simp [e]), all, List.length_cons]
    · rw [List.filter_cons_of_pos (by simpa using e), List.length_cons, List.length_cons]
      rcases List.mem_cons.1 hv with r | r
      · exact absurd (by rw [r]) e
      · rw [ih ht r]
theorem QuV.rem (h : QuV B w q m nA A nH Hm D L c) {v : Wt} {x nH' : Nat} {d : Hd} {Hm' : HMap} (hv : A v.job = some (v, x)) (hnH : nH' ≤ c)
    (hH : (d.S.n = 0 ∧ Hm' = delA Hm v.ky) ∨ (0 < d.S.n ∧ Hm' = Hm)) (hdH : d.H = (D v.ky).H)
    (hr : QuR B w' q m (nA - 1) (delI A v.job) nH' Hm')
    (hd : MmV B w' d.H d.va d.vk d.vs d.S) (hl : Lnk d.S) (hi : Ivl (LtM d.S.k) d.S.n d.S.e) (hm : d.S.m = (D v.ky).S.m) (hk : d.S.k = (D v.ky).S.k)
    (hs : ∀ y, d.S.s y = 0 ↔ ((D v.ky).S.s y = 0 ∨ y = x)) (hf : ∀ k, d.foot k → (D v.ky).foot k)
    (ho : ∀ t b, Hm t = some b → t ≠ v.ky → ∀ k, (D t).foot k → w'.heap[k]? = w.heap[k]?) :
    QuV B w' q m (nA - 1) (delI A v.job) nH' Hm' (updD D v.ky d) (delQ v.job L) c := by
  have hvL : v ∈ L := (h.mem v).2 ⟨x, hv⟩
  obtain ⟨⟨bv, hbv⟩, -, -, hkx⟩ := h.held _ v x hv
  have key : ∀ t b, Hm' t = some b → Hm t = some b ∧ (t = v.ky → 0 < d.S.n) := fun t b e => by
    rcases hH with ⟨q1, q2⟩ | ⟨q1, q2⟩
    · rw [q2] at e
      by_cases r : t = v.ky
      · rw [r, delA_same] at e; cases e
      · rw [delA_other _ r] at e
        exact ⟨e, fun r2 => absurd r2 r⟩
    · rw [q2] at e
      exact ⟨e, fun _ => q1⟩
  have dk : ∀ j y z, delI A v.job j = some (y, z) → j ≠ v.job ∧ A j = some (y, z) := fun j y z e => by
    by_cases r : j = v.job
    · rw [r, delI_same] at e; cases e
    · rw [delI_other _ r] at e; exact ⟨r, e⟩
  have hft : ∀ t k, (updD D v.ky d t).foot k → (D t).foot k := fun t k e => by
    by_cases r : t = v.ky
    · rw [r, updD_same] at e; rw [r]; exact hf k e
    · rw [updD_ne _ _ r] at e; exact e
  refine ⟨hr, fun t b e => ?_, fun t u b b' e e' hne k hkt hku => ?_, fun t b e k hkt => ?_, fun t b e z hz hsz => ?_, fun j y z e => ?_, fun j y z e => ?_, h.srt.del _, fun y => ?_, ?_, ⟨hnH, h.cnt.2⟩⟩
  · obtain ⟨e1, e2⟩ := key t b e
    obtain ⟨a1, a2, a3, a4, a5, a6⟩ := h.hp t b e1
    by_cases r : t = v.ky
    · rw [r, updD_same]
      rw [r] at a1 a6
      exact ⟨by rw [a1, hdH], hd, hl, hi, e2 r, by rw [hm]; exact a6⟩
    · rw [updD_ne _ _ r]
      exact ⟨a1, a2.kept fun k hk => ho t b e1 r k hk, a3, a4, a5, a6⟩
  · exact h.ap t u b b' (key t b e).1 (key u b' e').1 hne k (hft t k hkt) (hft u k hku)
  · exact h.aq t b (key t b e).1 k (hft t k hkt)
  · have e1 := (key t b e).1
    by_cases r : t = v.ky
    · rw [r, updD_same] at hz hsz
      rw [r] at e1
      have hsz' : ¬ ((D v.ky).S.s z = 0 ∨ z = x) := fun q1 => hsz ((hs z).2 q1)
      obtain ⟨j, y, hj, hy⟩ := h.live v.ky b e1 z (by rw [← hm]; exact hz) (fun q1 => hsz' (.inl q1))
      refine ⟨j, y, ?_, hy.trans r.symm⟩
      rw [delI_other _ (fun q1 => hsz' (.inr (by rw [q1, hv] at hj; injection hj with hj; injection hj with _ hj; exact hj.symm)))]
      exact hj
    · rw [updD_ne _ _ r] at hz hsz
      obtain ⟨j, y, hj, hy⟩ := h.live t b e1 z hz hsz
      refine ⟨j, y, ?_, hy⟩
      rw [delI_other _ (fun q1 => r (by rw [q1, hv] at hj; injection hj with hj; injection hj with hj _; rw [← hy, ← hj]))]
      exact hj
  · obtain ⟨q1, q2⟩ := dk j y z e
    obtain ⟨⟨b, e1⟩, e2, e3, e4⟩ := h.held j y z q2
    have hyj := (h.job j y z q2).1
    by_cases r : y.ky = v.ky
    · rw [r] at e1 e2 e3 e4 ⊢
      have hzx : z ≠ x := fun q3 => by
        rw [q3, hkx] at e4
        injection e4 with _ e5
        injection e5 with e5 _
        exact q1 (by rw [← hyj, ← e5])
      have hsz : d.S.s z ≠ 0 := fun q3 => by
        rcases (hs z).1 q3 with q4 | q4
        · exact e3 q4
        · exact hzx q4
      rw [updD_same]
      refine ⟨?_, by rw [hm]; exact e2, hsz, by rw [hk]; exact e4⟩
      rcases hH with ⟨q3, -⟩ | ⟨-, q3⟩
      · obtain ⟨p, -, hp, -⟩ := hl.place (by rw [hm]; exact e2) hsz
        omega
      · rw [q3]; exact ⟨b, e1⟩
    · rw [updD_ne _ _ r]
      refine ⟨⟨b, ?_⟩, e2, e3, e4⟩
      rcases hH with ⟨-, q3⟩ | ⟨-, q3⟩ <;> rw [q3]
      · rw [delA_other _ r]; exact e1
      · exact e1
  · exact h.job j y z (dk j y z e).2
  · rw [mem_delQ, h.mem]
    constructor
    · rintro ⟨⟨z, hz⟩, hne⟩
      exact ⟨z, by rw [delI_other _ hne]; exact hz⟩
    · rintro ⟨z, hz⟩
      obtain ⟨q1, q2⟩ := dk _ _ _ hz
      exact ⟨⟨z, q2⟩, q1⟩
  · have := delQ_len h.srt hvL
    rw [h.len]; omega
end Go.Proofs.Ytingeijodooocaa
