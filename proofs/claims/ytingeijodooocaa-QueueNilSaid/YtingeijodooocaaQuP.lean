/- Chapter 14's queue: what Push makes of the relation. -/
import Derived.Test.YtingeijodooocaaQuN
namespace Go.Proofs.Ytingeijodooocaa
open Go.RowKit
variable {B q nA nH c : Nat} {w w' : World} {m : Option (Nat × Nat)} {A : WMap} {Hm : HMap} {D : List UInt8 → Hd} {L : List Wt}
def updD (D : List UInt8 → Hd) (t : List UInt8) (d : Hd) : List UInt8 → Hd := fun u => if u = t then d else D u
theorem updD_same (D : List UInt8 → Hd) (t : List UInt8) (d : Hd) : updD D t d t = d := if_pos rfl
theorem updD_ne (D : List UInt8 → Hd) {t u : List UInt8} (d : Hd) (h : u ≠ t) : updD D t d u = D u := if_neg h
theorem QuV.push (h : QuV B w q m nA A nH Hm D L c) {v : Wt} {S0 : Mm} {d : Hd} {bm bh nH' : Nat}
    (hv : A v.job = none) (hj : 1 ≤ v.job ∧ v.job ≤ 100 ∧ 0 ≤ v.pri ∧ v.pri ≤ 100 ∧ v.ten.size ≤ maxLen) (hc : c + 1 ≤ 1000) (hnH : nH' ≤ c + 1)
    (h1 : ∀ b, Hm v.ky = some b → S0 = (D v.ky).S) (h0 : Hm v.ky = none → S0 = mm0)
    (hr : QuR B w' q (some (bm, bh)) (nA + 1) (putI A v.job (v, S0.m)) nH' (putA Hm v.ky (some d.H)))
    (hd : MmV B w' d.H d.va d.vk d.vs d.S) (hl : Lnk d.S) (hi : Ivl (LtM d.S.k) d.S.n d.S.e) (hk : Kin (S0.put (-v.pri, v.job, 0)) d.S)
    (hf : ∀ k, d.foot k → (∃ b, Hm v.ky = some b ∧ (D v.ky).foot k) ∨ w.heap.size ≤ k)
    (ho : ∀ t b, Hm t = some b → t ≠ v.ky → ∀ k, (D t).foot k → w'.heap[k]? = w.heap[k]?)
    (hq : ∀ k, d.foot k → k ≠ q ∧ k ≠ bm ∧ k ≠ bh) (hq2 : ∀ t b, Hm t = some b → t ≠ v.ky → ∀ k, (D t).foot k → k ≠ bm ∧ k ≠ bh) :
    QuV B w' q (some (bm, bh)) (nA + 1) (putI A v.job (v, S0.m)) nH' (putA Hm v.ky (some d.H)) (updD D v.ky d) (insQ v L) (c + 1) := by
  have hS0 : S0.m ≤ c ∧ (∀ x, x < S0.m → S0.s x ≠ 0 → ∃ b, Hm v.ky = some b ∧ S0 = (D v.ky).S) := by
    cases e : Hm v.ky with
    | none => rw [h0 e]; exact ⟨Nat.zero_le _, fun x hx => absurd hx (Nat.not_lt_zero x)⟩
    | some b =>
      obtain ⟨-, -, -, -, -, hm⟩ := h.hp _ b e
      rw [h1 b e]
      exact ⟨hm, fun _ _ _ => ⟨b, rfl, rfl⟩⟩
  have key : ∀ t b, putA Hm v.ky (some d.H) t = some b → (t = v.ky ∧ b = some d.H) ∨ (t ≠ v.ky ∧ Hm t = some b) := fun t b e => by
    by_cases q' : t = v.ky
    · rw [q', putA_same] at e
      injection e with e
      exact .inl ⟨q', e.symm⟩
    · rw [putA_other _ _ q'] at e
      exact .inr ⟨q', e⟩
  have hdn : d.S.n = S0.n + 1 := hk.n
  have hdm : d.S.m = S0.m + 1 := hk.m
  refine ⟨hr, fun t b e => ?_, fun t u b b' e e' hne k hkt hku => ?_, fun t b e k hkt => ?_, fun t b e x hx hs => ?_, fun j y x e => ?_, fun j y x e => ?_, ?_, fun y => ?_, ?_, ⟨hnH, hc⟩⟩
  · rcases key t b e with ⟨q1, q2⟩ | ⟨q1, q2⟩
    · rw [q1, updD_same]
      exact ⟨q2, hd, hl, hi, by omega, by rw [hdm]; omega⟩
    · rw [updD_ne _ _ q1]
      obtain ⟨a1, a2, a3, a4, a5, a6⟩ := h.hp t b q2
      exact ⟨a1, a2.kept fun k hk => ho t b q2 q1 k hk, a3, a4, a5, by omega⟩
  · have hold : ∀ u b, Hm u = some b → u ≠ v.ky → ∀ k, d.foot k → (D u).foot k → False := fun u b e hu k hdk huk => by
      rcases hf k hdk with ⟨b2, e2, hk2⟩ | hk2
      · exact h.ap v.ky u b2 b e2 e (fun x => hu x.symm) k hk2 huk
      · have := ((h.hp u b e).2.1.foot huk).2
        omega
    rcases key t b e with ⟨q1, q2⟩ | ⟨q1, q2⟩
    · rcases key u b' e' with ⟨r1, r2⟩ | ⟨r1, r2⟩
      · exact hne (q1.trans r1.symm)
      · rw [q1, updD_same] at hkt
        rw [updD_ne _ _ r1] at hku
        exact hold u b' r2 r1 k hkt hku
    · rcases key u b' e' with ⟨r1, r2⟩ | ⟨r1, r2⟩
      · rw [r1, updD_same] at hku
        rw [updD_ne _ _ q1] at hkt
        exact hold t b q2 q1 k hku hkt
      · rw [updD_ne _ _ q1] at hkt
        rw [updD_ne _ _ r1] at hku
        exact h.ap t u b b' q2 r2 hne k hkt hku
  · rcases key t b e with ⟨q1, q2⟩ | ⟨q1, q2⟩
    · rw [q1, updD_same] at hkt
      obtain ⟨a1, a2, a3⟩ := hq k hkt
      exact ⟨a1, fun x y e => by cases e; exact ⟨a2, a3⟩⟩
    · rw [updD_ne _ _ q1] at hkt
      exact ⟨(h.aq t b q2 k hkt).1, fun x y e => by cases e; exact hq2 t b q2 q1 k hkt⟩
  · rcases key t b e with ⟨q1, q2⟩ | ⟨q1, q2⟩
    · rw [q1, updD_same] at hx hs
      rw [Ne, hk.live] at hs
      have hs' : upf S0.s S0.m (S0.n + 1) x ≠ 0 := hs
      by_cases q3 : x = S0.m
      · exact ⟨v.job, v, by rw [q3]; exact putI_same A _ _, q1.symm⟩
      · unfold upf at hs'
        rw [if_neg q3] at hs'
        obtain ⟨b2, e2, e3⟩ := hS0.2 x (by omega) hs'
        obtain ⟨j, y, hj2, hy⟩ := h.live v.ky b2 e2 x (by rw [← e3]; omega) (by rw [← e3]; exact hs')
        refine ⟨j, y, ?_, hy.trans q1.symm⟩
        rw [putI_other A _ (fun z => by rw [z, hv] at hj2; cases hj2)]
        exact hj2
    · rw [updD_ne _ _ q1] at hx hs
      obtain ⟨j, y, hj2, hy⟩ := h.live t b q2 x hx hs
      refine ⟨j, y, ?_, hy⟩
      rw [putI_other A _ (fun z => by rw [z, hv] at hj2; cases hj2)]
      exact hj2
  · by_cases q1 : j = v.job
    · rw [q1, putI_same] at e
      injection e with e
      injection e with e1 e2
      subst e1; subst e2
      rw [updD_same, hk.k, hdm]
      refine ⟨⟨_, putA_same _ _ _⟩, by omega, ?_, ?_⟩
      · rw [Ne, hk.live]
        show ¬ upf S0.s S0.m (S0.n + 1) S0.m = 0
        unfold upf
        rw [if_pos rfl]; omega
      · show upf S0.k S0.m _ S0.m = _
        unfold upf
        rw [if_pos rfl]
    · rw [putI_other A _ q1] at e
      obtain ⟨⟨b, e1⟩, e2, e3, e4⟩ := h.held j y x e
      by_cases q2 : y.ky = v.ky
      · rw [q2] at e1 e2 e3 e4 ⊢
        rw [← h1 b e1] at e2 e3 e4
        rw [updD_same, hk.k, hdm]
        refine ⟨⟨_, putA_same _ _ _⟩, by omega, ?_, ?_⟩
        · rw [Ne, hk.live]
          show ¬ upf S0.s S0.m (S0.n + 1) x = 0
          unfold upf
          rw [if_neg (by omega)]; exact e3
        · show upf S0.k S0.m _ x = _
          unfold upf
          rw [if_neg (by omega)]; exact e4
      · rw [updD_ne _ _ q2]
        exact ⟨⟨b, by rw [putA_other _ _ q2]; exact e1⟩, e2, e3, e4⟩
  · by_cases q1 : j = v.job
    · rw [q1, putI_same] at e
      injection e with e
      injection e with e1 e2
      subst e1
      exact ⟨q1.symm, by omega, by omega, hj.2.2⟩
    · rw [putI_other A _ q1] at e
      exact h.job j y x e
  · refine h.srt.ins fun x hx e => ?_
    obtain ⟨z, hz⟩ := (h.mem x).1 hx
    rw [e, hv] at hz
    cases hz
  · rw [mem_insQ]
    constructor
    · rintro (e | e)
      · rw [e]; exact ⟨_, putI_same A _ _⟩
      · obtain ⟨z, hz⟩ := (h.mem y).1 e
        exact ⟨z, by rw [putI_other A _ (fun r => by rw [r, hv] at hz; cases hz)]; exact hz⟩
    · rintro ⟨z, hz⟩
      by_cases q1 : y.job = v.job
      · rw [q1, putI_same] at hz
        injection hz with hz
        injection hz with hz _
        exact .inl hz.symm
      · rw [putI_other A _ q1] at hz
        exact .inr ((h.mem y).2 ⟨z, hz⟩)
  · rw [(insQ_perm v L).length_eq, List.length_cons, h.len]
end Go.Proofs.Ytingeijodooocaa
