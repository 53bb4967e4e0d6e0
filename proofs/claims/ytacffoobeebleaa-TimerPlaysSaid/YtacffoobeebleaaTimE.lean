/- Plain laws for TimerOrder, TimerRings, TimerPlays: lists in order with the same members are one; what two clocks that are set alike have. -/
import Derived.Test.YtacffoobeebleaaWTimL
namespace Go.Proofs.Ytacffoobeebleaa
theorem sorted_eq : ∀ {l l' : List Al}, l.Pairwise (fun x y => ltA x y = true) → l'.Pairwise (fun x y => ltA x y = true) → (∀ x, x ∈ l ↔ x ∈ l') → l = l'
  | [], [], _, _, _ => rfl
  | [], y :: l', _, _, h => by have := (h y).2 (by simp); cases this
  | x :: l, [], _, _, h => by have := (h x).1 (by simp); cases this
  | x :: l, y :: l', h1, h2, h => by
    obtain ⟨a1, b1⟩ := List.pairwise_cons.1 h1
    obtain ⟨a2, b2⟩ := List.pairwise_cons.1 h2
    have e : x = y := by
      rcases List.mem_cons.1 ((h x).1 (by simp)) with e | hx
      · exact e
      · rcases List.mem_cons.1 ((h y).2 (by simp)) with e | hy
        · exact e.symm
        · have := ltA_tr (a1 y hy) (a2 x hx)
          rw [ltA_irr] at this; cases this
    subst e
    rw [sorted_eq b1 b2 (fun z => ?_)]
    have hz := h z
    rw [List.mem_cons, List.mem_cons] at hz
    constructor
    · intro hm
      rcases hz.1 (.inr hm) with e | h'
      · subst e
        have := a1 z hm
        rw [ltA_irr] at this; cases this
      · exact h'
    · intro hm
      rcases hz.2 (.inr hm) with e | h'
      · subst e
        have := a2 z hm
        rw [ltA_irr] at this; cases this
      · exact h'
theorem sorted_nodup {l : List Al} (h : l.Pairwise (fun x y => ltA x y = true)) : l.Nodup := by
  rw [List.nodup_iff_pairwise_ne]
  refine h.imp ?_
  intro x y e he
  subst he
  rw [ltA_irr] at e; cases e
theorem same_len {l l' : List Al} (h : l.Nodup) (h' : l'.Nodup) (hm : ∀ x, x ∈ l ↔ x ∈ l') : l.length = l'.length := ((List.perm_ext_iff_of_nodup h h').2 hm).length_eq
theorem hasN_same {l l' : List Al} (hm : ∀ x, x ∈ l ↔ x ∈ l') (s : ByteArray) : hasN l s = hasN l' s := by
  cases e : hasN l' s with
  | true =>
    obtain ⟨x, hx, hs⟩ := (hasN_mem l' s).1 e
    exact (hasN_mem l s).2 ⟨x, (hm x).2 hx, hs⟩
  | false => exact hasN_not (fun x hx hs => by rw [(hasN_mem l' s).2 ⟨x, (hm x).1 hx, hs⟩] at e; cases e)
theorem setR_same {l l' k k' : List Al} {s : ByteArray} {t : Int} (hm : ∀ x, x ∈ l ↔ x ∈ l') (hl : l.length = l'.length) (h : SetR l s t k) (h' : SetR l' s t k') : (∀ x, x ∈ k ↔ x ∈ k') ∧ k.length = k'.length := by
  unfold SetR at h h'
  rw [← hasN_same hm, ← hl] at h'
  split at h
  · rename_i hc
    rw [if_pos hc] at h'
    subst h h'
    exact ⟨hm, hl⟩
  · rename_i hc
    rw [if_neg hc] at h'
    refine ⟨fun x => by rw [h.2, h'.2, hm], by rw [h.1, h'.1]⟩
theorem setR_bound {l k : List Al} {s : ByteArray} {t lo hi : Int} (hb : ∀ x ∈ l, lo ≤ x.2 ∧ x.2 ≤ hi) (ht : lo ≤ t ∧ t ≤ hi) (h : SetR l s t k) : ∀ x ∈ k, lo ≤ x.2 ∧ x.2 ≤ hi := by
  unfold SetR at h
  split at h
  · subst h; exact hb
  · intro x hx
    rcases (h.2 x).1 hx with rfl | ⟨h1, -⟩
    · exact ht
    · exact hb x h1
/-- Due tick by tick: what has come out ahead of now, and what is left. -/
structure PartsI (now : Int) (l0 parts l : List Al) : Prop where
  sorted : parts.Pairwise (fun x y => ltA x y = true)
  out_iff : ∀ x, x ∈ parts ↔ x ∈ l0 ∧ x.2 < now
  left_iff : ∀ x, x ∈ l ↔ x ∈ l0 ∧ ¬ x.2 < now
  len : parts.length + l.length = l0.length
theorem PartsI.step {now next : Int} {l0 parts l out l' : List Al} (hn : now < next) (h : PartsI now l0 parts l) (d : DueR (next - 1) l out l') : PartsI next l0 (parts ++ out) l' := by
  refine ⟨?_, fun x => ?_, fun x => ?_, ?_⟩
  · rw [List.pairwise_append]
    refine ⟨h.sorted, d.sorted, fun x hx y hy => ?_⟩
    have h1 := ((h.out_iff x).1 hx).2
    have h2 := ((h.left_iff y).1 ((d.out_iff y).1 hy).1).2
    rw [ltA_iff]; left; omega
  · rw [List.mem_append, h.out_iff, d.out_iff, h.left_iff]
    constructor
    · rintro (⟨h1, h2⟩ | ⟨⟨h1, h2⟩, h3⟩)
      · exact ⟨h1, by omega⟩
      · exact ⟨h1, by omega⟩
    · rintro ⟨h1, h2⟩
      by_cases e : x.2 < now
      · exact .inl ⟨h1, e⟩
      · exact .inr ⟨⟨h1, e⟩, by omega⟩
  · rw [d.left_iff, h.left_iff]
    constructor
    · rintro ⟨⟨h1, h2⟩, h3⟩; exact ⟨h1, by omega⟩
    · rintro ⟨h1, h2⟩; exact ⟨⟨h1, by omega⟩, by omega⟩
  · have := h.len
    have := d.len
    simp; omega
end Go.Proofs.Ytacffoobeebleaa
