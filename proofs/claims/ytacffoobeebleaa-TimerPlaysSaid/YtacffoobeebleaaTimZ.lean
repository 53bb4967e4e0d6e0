/- Chapter 10: the program's clock and the reference's side by side; plain laws on what both answer. -/
import Derived.Test.YtacffoobeebleaaTimV
namespace Go.Proofs.Ytacffoobeebleaa
open Go.RowKit
/-- The reference's list holds the same alarms, in order. -/
structure SameL (l lr : List Al) : Prop where
  sorted : Sorted lr
  mem : ∀ x, x ∈ l ↔ x ∈ lr
  len : l.length = lr.length
/-- Both clocks in memory, beside a block b of the caller's. -/
structure Half (B : Nat) (w : World) (c : Nat) (v : Value) (m : Option Nat) (l : List Al) (R : Nat) (vr : Value) (lr : List Al) (b : Nat) (cs : Array Value) : Prop where
  k : Clk B w c v m l
  r : RefK B w R vr lr
  ap : ∀ k, Foot c v m k → ¬ FootR R vr k
  bx : w.heap[b]? = some (.cells cs 49 (0, 0))
  bc : ¬ Foot c v m b
  br : ¬ FootR R vr b
section
variable {B c R b : Nat} {w w' : World} {v vr : Value} {m : Option Nat} {l lr : List Al} {cs : Array Value}
theorem Half.below (h : Half B w c v m l R vr lr b cs) (hb : Below w.heap.size w w') : Half B w' c v m l R vr lr b cs :=
  ⟨h.k.below hb, h.r.below hb, h.ap, below_at hb (lt_of_at h.bx) h.bx, h.bc, h.br⟩
theorem Half.prog {Q : List Al → Prop} (h : Half B w c v m l R vr lr b cs) (p : CPost B w w' c v m Q) : ∃ v' m' l', Half B w' c v' m' l' R vr lr b cs ∧ Q l' ∧ Below B w w' := by
  obtain ⟨v', m', l', q1, q2, q3, q4⟩ := p
  refine ⟨v', m', l', ⟨q1, h.r.tur q3 (fun k hk hf => h.ap k hf hk), fun k hk hr => ?_, (q3.kept b (lt_of_at h.bx) h.bc).trans h.bx, fun hb => ?_, h.br⟩, q2, q3.below h.k.le (fun k hk => (h.k.foot hk).1)⟩
  · rcases q4 k hk with h1 | h1
    · exact h.ap k h1 hr
    · have := (h.r.foot hr).2; omega
  · rcases q4 b hb with h1 | h1
    · exact h.bc h1
    · have := lt_of_at h.bx; omega
theorem Half.ref {Q : List Al → Prop} (h : Half B w c v m l R vr lr b cs) (p : RPost B w w' R vr Q) : ∃ vr' lr', Half B w' c v m l R vr' lr' b cs ∧ Q lr' ∧ Below B w w' := by
  obtain ⟨v', l', q1, q2, q3, q4⟩ := p
  refine ⟨v', l', ⟨h.k.tur q3 (fun k hk hf => h.ap k hk hf), q1, fun k hk hr => ?_, (q3.kept b (lt_of_at h.bx) h.br).trans h.bx, h.bc, fun hb => ?_⟩, q2, q3.below h.k.le (fun k hk => (h.r.foot hk).1)⟩
  · rcases q4 k hr with h1 | h1
    · exact h.ap k hk h1
    · have := (h.k.foot hk).2; omega
  · rcases q4 b hb with h1 | h1
    · exact h.br h1
    · have := lt_of_at h.bx; omega
end
/-- Both clocks, with the same alarms. -/
structure Pair (B : Nat) (w : World) (c : Nat) (v : Value) (m : Option Nat) (l : List Al) (R : Nat) (vr : Value) (lr : List Al) : Prop where
  k : Clk B w c v m l
  r : RefK B w R vr lr
  ap : ∀ k, Foot c v m k → ¬ FootR R vr k
  same : SameL l lr
theorem Pair.half {B c R : Nat} {w w' : World} {v vr : Value} {m : Option Nat} {l lr : List Al} {cs : Array Value} (h : Pair B w c v m l R vr lr) (hb : Below w.heap.size w w') (hx : w'.heap[w.heap.size]? = some (.cells cs 49 (0, 0))) : Half B w' c v m l R vr lr w.heap.size cs :=
  ⟨h.k.below hb, h.r.below hb, h.ap, hx, fun hf => by have := (h.k.foot hf).2; omega, fun hf => by have := (h.r.foot hf).2; omega⟩
theorem Half.pair {B c R b : Nat} {w : World} {v vr : Value} {m : Option Nat} {l lr : List Al} {cs : Array Value} (h : Half B w c v m l R vr lr b cs) (hs : SameL l lr) : Pair B w c v m l R vr lr := ⟨h.k, h.r, h.ap, hs⟩
theorem Pair.below {B c R : Nat} {w w' : World} {v vr : Value} {m : Option Nat} {l lr : List Al} (h : Pair B w c v m l R vr lr) (hb : Below w.heap.size w w') : Pair B w' c v m l R vr lr := ⟨h.k.below hb, h.r.below hb, h.ap, h.same⟩
/-- What a step of the law leaves. -/
def StepP (B : Nat) (w w' : World) (c R : Nat) : Prop := ∃ v m l vr lr, Pair B w' c v m l R vr lr ∧ Below B w w'
section
variable {B c R : Nat} {w w' : World} {v vr : Value} {m : Option Nat} {l lr : List Al}
theorem Pair.apart (h : Pair B w c v m l R vr lr) : Apart lr := by
  intro i j hi hj e
  have h1 := (h.same.mem _).2 (el_mem hi)
  have h2 := (h.same.mem _).2 (el_mem hj)
  have h3 := h.k.names.1 _ h1 _ h2 e
  rw [el_eq hi, el_eq hj] at h3
  exact (List.getElem_inj (sorted_nodup h.same.sorted)).1 h3
theorem Pair.len (h : Pair B w c v m l R vr lr) : lr.length ≤ 1024 := by rw [← h.same.len]; exact h.k.len
theorem Pair.setE (h : Pair B w c v m l R vr lr) (s : ByteArray) : setE lr s = setE l s := by
  unfold Go.Proofs.Ytacffoobeebleaa.setE
  rw [hasN_same h.same.mem, h.same.len]
theorem SameL.set {l lr k kr : List Al} {s : ByteArray} {t : Int} (h : SameL l lr) (hk : SetR l s t k) (hkr : SetR lr s t kr ∧ Sorted kr) : SameL k kr := by
  obtain ⟨h1, h2⟩ := setR_same h.mem h.len hk hkr.1
  exact ⟨hkr.2, h1, h2⟩
theorem SameL.cancel {l lr k kr : List Al} {s : ByteArray} (h : SameL l lr) (hk : CancelR l s k) (hkr : CancelR lr s kr ∧ Sorted kr) : SameL k kr := by
  refine ⟨hkr.2, fun x => by rw [hk.2, hkr.1.2, h.mem], ?_⟩
  have h1 := hk.1
  have h2 := hkr.1.1
  rw [hasN_same h.mem, h.len] at h1
  omega
theorem SameL.due {l lr k kr out outr : List Al} {now : Int} (h : SameL l lr) (hk : DueR now l out k) (hkr : DueR now lr outr kr) (hs : Sorted kr) : SameL k kr ∧ out = outr := by
  have e : out = outr := sorted_eq hk.sorted hkr.sorted (fun x => by rw [hk.out_iff, hkr.out_iff, h.mem])
  refine ⟨⟨hs, fun x => by rw [hk.left_iff, hkr.left_iff, h.mem], ?_⟩, e⟩
  have h1 := hk.len
  have h2 := hkr.len
  have h3 := h.len
  subst e
  omega
theorem Pair.get (h : Pair B w c v m l R vr lr) {s : ByteArray} {t q t' q' : Int} (h1 : (q = 0 ∧ (s, t) ∈ l) ∨ (q = 3 ∧ t = 0 ∧ hasN l s = false)) (h2 : (q' = 0 ∧ (s, t') ∈ lr) ∨ (q' = 3 ∧ t' = 0 ∧ hasN lr s = false)) : t = t' ∧ q = q' := by
  rw [← hasN_same h.same.mem] at h2
  rcases h1 with ⟨rfl, h1⟩ | ⟨rfl, rfl, h1⟩
  · rcases h2 with ⟨rfl, h2⟩ | ⟨rfl, rfl, h2⟩
    · have := h.k.names.1 _ h1 _ ((h.same.mem _).2 h2) rfl
      injection this with _ this
      exact ⟨this, rfl⟩
    · rw [(hasN_mem l s).2 ⟨_, h1, rfl⟩] at h2; cases h2
  · rcases h2 with ⟨rfl, h2⟩ | ⟨rfl, rfl, h2⟩
    · rw [(hasN_mem l s).2 ⟨_, (h.same.mem _).2 h2, rfl⟩] at h1; cases h1
    · exact ⟨rfl, rfl⟩
theorem Pair.first (h : Pair B w c v m l R vr lr) (h0 : 0 < l.length) : el lr 0 = el l 0 := by
  have hr0 : 0 < lr.length := by rw [← h.same.len]; exact h0
  obtain ⟨i, hi, e⟩ := mem_el ((h.same.mem _).1 (el_mem h0))
  have h1 := h.k.root (el lr 0) ((h.same.mem _).2 (el_mem hr0))
  rcases Nat.eq_zero_or_pos i with rfl | hp
  · exact e
  · have := List.pairwise_iff_getElem.1 h.same.sorted 0 i hr0 hi hp
    rw [← el_eq hr0, ← el_eq hi, e, h1] at this
    cases this
end
end Go.Proofs.Ytacffoobeebleaa
