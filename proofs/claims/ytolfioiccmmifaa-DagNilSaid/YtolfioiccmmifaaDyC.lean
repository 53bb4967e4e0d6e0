/- DagReleases, DagFails, DagOrder, plain. No program is in sight. -/
import Derived.Test.YtolfioiccmmifaaDgH
namespace Go.Proofs.Ytolfioiccmmifaa
variable {G : Gr} {n i x id : Nat} {zs : List Int} {F : List Nat}
/-- The first n jobs are there, open; parents have less numbers. -/
structure Low (n : Nat) (G : Gr) : Prop where
  ok : G.Ok
  st : ∀ x, G.st x = if 1 ≤ x ∧ x ≤ n then 1 else 0
  par : ∀ p c, G.Par p c → p < c
theorem Low.start : Low 0 gr0 := ⟨ok0, fun x => by rw [if_neg (by omega)]; rfl, fun p c h => absurd rfl h.1⟩
theorem Low.no (h : Low n G) (b : Nat) : ¬ G.Rch (n + 1) b := fun hr => by
  obtain ⟨c, h1, -⟩ := hr.first
  have h2 := h.par _ _ h1
  have h3 := h1.1
  rw [h.st c] at h3
  split at h3 <;> omega
theorem Low.fit (h : Low n G) (hn : n < 100) (hz : ∀ z ∈ zs, 1 ≤ z ∧ z ≤ (n : Int)) : G.Fit (n + 1) (dd zs) := by
  have hp : ∀ p ∈ dd zs, 1 ≤ p ∧ p ≤ n := fun p hp => by
    have := hz _ (dd_mem.1 hp).2
    omega
  refine ⟨by omega, by rw [h.st, if_neg (by omega)], pick_sorted _, fun p q => ?_, fun p q => ?_, fun p q => ?_⟩
  · have := hp p q; omega
  · have := hp p q; exact ⟨by omega, h.no p⟩
  · rw [h.st]; split <;> omega
theorem Low.next (h : Low n G) (hn : n < 100) (hz : ∀ z ∈ zs, 1 ≤ z ∧ z ≤ (n : Int)) : Low (n + 1) (G.add (n + 1) (dd zs)) := by
  have hF := h.fit hn hz
  refine ⟨h.ok.add hF, fun x => ?_, fun p c hc => ?_⟩
  · show upd G.st (n + 1) 1 x = _
    by_cases e : x = n + 1
    · rw [e, upd_same, if_pos (by omega)]
    · rw [upd_ne _ _ e, h.st]
      by_cases q : 1 ≤ x ∧ x ≤ n
      · rw [if_pos q, if_pos (by omega)]
      · rw [if_neg q, if_neg (by omega)]
  · rcases (add_par h.ok hF.ab p c).1 hc with q | ⟨rfl, q⟩
    · exact h.par p c q
    · have := hz _ (dd_mem.1 q).2
      omega
theorem Low.cnt (h : Low n G) (hn : n ≤ 100) (hz : ∀ z ∈ zs, 1 ≤ z ∧ z ≤ (n : Int)) : G.cntN (dd zs) = 0 ↔ zs = [] := by
  constructor
  · intro hc
    cases zs with
    | nil => rfl
    | cons z t =>
      exfalso
      have h1 := hz z (by simp)
      have hm : z.toNat ∈ dd (z :: t) := dd_mem.2 ⟨by omega, by rw [show ((z.toNat : Nat) : Int) = z by omega]; simp⟩
      have h2 := countP_zero.1 hc _ hm
      rw [h.st, if_pos (by omega)] at h2
      simp at h2
  · rintro rfl
    have : dd [] = [] := List.eq_nil_iff_forall_not_mem.2 fun x hx => by have := (dd_mem.1 hx).2; cases this
    rw [this]; rfl
theorem Low.free (h : Low n G) (x : Nat) : G.free x ↔ (1 ≤ x ∧ x ≤ n) ∧ G.pa x = [] := by
  rw [h.ok.free, h.st]
  constructor
  · rintro ⟨h1, h2⟩
    split at h1
    · next q =>
      refine ⟨q, ?_⟩
      cases e : G.pa x with
      | nil => rfl
      | cons p t =>
        exfalso
        have := h2 p (by rw [e]; simp)
        rw [h.st] at this
        split at this <;> omega
    · cases h1
  · rintro ⟨h1, h2⟩
    rw [if_pos h1, h2]
    exact ⟨rfl, fun p hp => nomatch hp⟩
/-- Of those that are free, the first i are done. -/
structure Rel (n : Nat) (G : Gr) (F : List Nat) (i : Nat) : Prop where
  ok : G.Ok
  hi : i ≤ F.length
  nd : F.Nodup
  mn : ∀ x ∈ F, 1 ≤ x ∧ x ≤ n
  st : ∀ x, G.st x = if x ∈ F.take i then 2 else if 1 ≤ x ∧ x ≤ n then 1 else 0
  fr : ∀ x, x ∈ F.drop i ↔ G.free x
  par : ∀ p c, G.Par p c → p < c
theorem Low.rel (h : Low n G) (hn : F.Nodup) (hF : ∀ x, x ∈ F ↔ (1 ≤ x ∧ x ≤ n) ∧ G.pa x = []) : Rel n G F 0 :=
  ⟨h.ok, Nat.zero_le _, hn, fun x hx => ((hF x).1 hx).1, fun x => by rw [List.take_zero, h.st]; simp, fun x => by rw [List.drop_zero, h.free]; exact hF x, h.par⟩
theorem Rel.len (h : Rel n G F i) : F.length ≤ n := by
  have := nodup_len (m := List.range' 1 n) h.nd (fun x hx => by
    have := h.mn x hx
    rw [List.mem_range'_1]
    omega)
  simpa using this
theorem mem_parts (F : List Nat) (i x : Nat) : x ∈ F ↔ x ∈ F.take i ∨ x ∈ F.drop i := by
  rw [← List.mem_append, List.take_append_drop]
theorem Rel.at (h : Rel n G F i) (hx : F[i]? = some id) : G.free id ∧ id ∉ F.take i ∧ (1 ≤ id ∧ id ≤ n) := by
  obtain ⟨hi, e⟩ := getq hx
  have hd : id ∈ F.drop i := by
    rw [List.drop_eq_getElem_cons hi, e]
    simp
  exact ⟨(h.fr id).1 hd, take_not h.nd hx, h.mn id (by rw [← e]; exact List.getElem_mem _)⟩
theorem doneL_mem : x ∈ G.doneL id ↔ x ≤ 100 ∧ x ∈ G.ch id ∧ G.st x = 1 ∧ G.pe x = 1 := by
  unfold Gr.doneL Gr.dnow
  rw [pick_mem, decide_eq_true_eq]
theorem Rel.newN (h : Rel n G F i) (hx : x ∈ G.doneL id) : x ∉ F ∧ (1 ≤ x ∧ x ≤ n) := by
  obtain ⟨-, h1, h2, h3⟩ := doneL_mem.1 hx
  constructor
  · intro hf
    rcases (mem_parts F i x).1 hf with q | q
    · have := h.st x
      rw [if_pos q] at this
      omega
    · have := ((h.fr x).1 q).2
      omega
  · have := h.st x
    rw [h2] at this
    split at this
    · cases this
    · split at this
      · assumption
      · cases this
/-- A child that is open has a parent that isn't done. -/
theorem child_pos (ok : G.Ok) (hf : G.free id) (hc : x ∈ G.ch id) : 1 ≤ G.pe x := by
  obtain ⟨h1, h2⟩ := (ok.chm _ _).1 hc
  rw [ok.pen x h1]
  have : 0 < (G.pa x).countP (fun p => decide (G.st p ≠ 2)) := List.countP_pos_iff.2 ⟨id, h2, by rw [hf.1]; rfl⟩
  omega
theorem done_free (ok : G.Ok) (hf : G.free id) (x : Nat) : (G.done id).free x ↔ (G.free x ∧ x ≠ id) ∨ x ∈ G.doneL id := by
  rw [doneL_mem]
  unfold Gr.free
  show upd G.st id 2 x = 1 ∧ (if x ∈ G.ch id then G.pe x - 1 else G.pe x) = 0 ↔ _
  by_cases e : x = id
  · subst e
    rw [upd_same]
    constructor
    · rintro ⟨q, -⟩; cases q
    · rintro (⟨-, q⟩ | ⟨-, q, -⟩)
      · exact absurd rfl q
      · exact absurd (.one ((ok.chm _ _).1 q)) (ok.acy x)
  · rw [upd_ne _ _ e]
    by_cases hc : x ∈ G.ch id
    · rw [if_pos hc]
      have := child_pos ok hf hc
      constructor
      · rintro ⟨h1, h2⟩
        exact .inr ⟨(ok.chr hc).1.2, hc, h1, by omega⟩
      · rintro (⟨⟨h1, h2⟩, -⟩ | ⟨-, -, h1, h2⟩)
        · omega
        · exact ⟨h1, by omega⟩
    · rw [if_neg hc]
      constructor
      · rintro ⟨h1, h2⟩
        exact .inl ⟨⟨h1, h2⟩, e⟩
      · rintro (⟨h1, -⟩ | ⟨-, q, -⟩)
        · exact h1
        · exact absurd q hc
theorem Rel.next (h : Rel n G F i) (hx : F[i]? = some id) : Rel n (G.done id) (F ++ G.doneL id) (i + 1) := by
  obtain ⟨hf, hnt, hm⟩ := h.at hx
  obtain ⟨hi, e⟩ := getq hx
  have ht : (F ++ G.doneL id).take (i + 1) = F.take i ++ [id] := by
    rw [List.take_append_of_le_length (by omega), take_next hx]
  have hd : (F ++ G.doneL id).drop (i + 1) = F.drop (i + 1) ++ G.doneL id := by
    rw [List.drop_append_of_le_length (by omega)]
  have hdi : F.drop i = id :: F.drop (i + 1) := by rw [List.drop_eq_getElem_cons hi, e]
  have hnd : (F.drop i).Nodup := h.nd.sublist (List.drop_sublist _ _)
  rw [hdi, List.nodup_cons] at hnd
  refine ⟨h.ok.done hf, by simp; omega, List.nodup_append.2 ⟨h.nd, nodup_of_lt (pick_sorted _), fun a ha b hb q => ?_⟩, fun x hx => ?_, fun x => ?_, fun x => ?_, fun p c hp => h.par p c ((done_par G (by rw [hf.1]; omega) p c).1 hp)⟩
  · subst q; exact (h.newN hb).1 ha
  · rcases List.mem_append.1 hx with q | q
    · exact h.mn x q
    · exact (h.newN q).2
  · rw [ht]
    show upd G.st id 2 x = _
    by_cases q : x = id
    · rw [q, upd_same, if_pos (by simp)]
    · rw [upd_ne _ _ q, h.st]
      by_cases q2 : x ∈ F.take i
      · rw [if_pos q2, if_pos (by simp [q2])]
      · have q3 : x ∉ F.take i ++ [id] := by simp [q, q2]
        rw [if_neg q2, if_neg q3]
  · rw [hd, done_free h.ok hf, List.mem_append]
    have h1 := h.fr x
    rw [hdi, List.mem_cons] at h1
    constructor
    · rintro (q | q)
      · exact .inl ⟨h1.1 (.inr q), fun e => hnd.1 (by rw [← e]; exact q)⟩
      · exact .inr q
    · rintro (⟨q1, q2⟩ | q)
      · rcases h1.2 q1 with q | q
        · exact absurd q q2
        · exact .inl q
      · exact .inr q
theorem Rel.all (h : Rel n G F i) (hi : i = F.length) : F.length = n := by
  have hno : ∀ x, ¬ G.free x := fun x hx => by
    have := (h.fr x).2 hx
    rw [hi, List.drop_length] at this
    cases this
  rw [hi] at h
  have hst := h.st
  rw [List.take_length] at hst
  have key : ∀ m x, x ≤ m → 1 ≤ x → x ≤ n → x ∈ F := by
    intro m
    induction m with
    | zero => intro x h1 h2; omega
    | succ m ih =>
      intro x h1 h2 h3
      by_cases hx : x ∈ F
      · exact hx
      · exfalso
        apply hno x
        rw [h.ok.free]
        have h4 := hst x
        rw [if_neg hx, if_pos ⟨h2, h3⟩] at h4
        refine ⟨h4, fun p hp => ?_⟩
        have hpp := h.ok.pr x p hp
        have hlt := h.par p x ⟨by omega, hp⟩
        have := ih p (by omega) hpp.1 (by omega)
        rw [hst p, if_pos this]
  have h1 := h.len
  have h2 := nodup_len (l := List.range' 1 n) (m := F) (List.nodup_range' (step := 1)) (fun x hx => by
    rw [List.mem_range'_1] at hx
    exact key x x (Nat.le_refl _) (by omega) (by omega))
  rw [List.length_range'] at h2
  omega
/-- What fails with a job. -/
theorem Low.under (h : Low n G) (x : Nat) (p : Nat) : p ∈ G.failL x ↔ G.Rch x p := by
  unfold Gr.failL
  rw [pick_mem]
  constructor
  · exact fun q => q.2.1
  · intro q
    have h1 := (h.ok.rch q).2
    obtain ⟨c, h2, -⟩ := q.last
    have h3 := h2.1
    rw [h.st] at h3
    refine ⟨h1.2, q, ?_⟩
    rw [h.st]
    split at h3
    · next q => rw [if_pos q]
    · exact absurd rfl h3
theorem gone_iff (G : Gr) {x c : Nat} (hs : G.st c ≠ 0) : (c = x ∨ ∃ p ∈ G.pa c, p = x ∨ G.Rch x p) ↔ (c = x ∨ G.Rch x c) := by
  constructor
  · rintro (q | ⟨p, h1, q⟩)
    · exact .inl q
    · rcases q with rfl | q
      · exact .inr (.one ⟨hs, h1⟩)
      · exact .inr (.step q ⟨hs, h1⟩)
  · rintro (q | q)
    · exact .inl q
    · obtain ⟨p, h1, h2⟩ := q.last
      exact .inr ⟨p, h1.2, h2⟩
/-- In a list that holds jobs there is one none of whose parents is in the list. -/
theorem first_of (ok : G.Ok) : ∀ (m : Nat) (S : List Nat), S.length ≤ m → S ≠ [] → (∀ x ∈ S, G.st x ≠ 0) → ∃ x ∈ S, ∀ p ∈ G.pa x, p ∉ S := by
  classical
  intro m
  induction m with
  | zero => intro S h1 h2; exact absurd (List.eq_nil_of_length_eq_zero (by omega)) h2
  | succ m ih =>
    intro S h1 h2 h3
    obtain ⟨x, hx⟩ := List.exists_mem_of_ne_nil S h2
    by_cases hp : ∀ p ∈ G.pa x, p ∉ S
    · exact ⟨x, hx, hp⟩
    · have hp' : ∃ p, p ∈ G.pa x ∧ p ∈ S := by
        by_cases q : ∃ p, p ∈ G.pa x ∧ p ∈ S
        · exact q
        · exact absurd (fun p hp1 hp2 => q ⟨p, hp1, hp2⟩) hp
      obtain ⟨p, hp1, hp2⟩ := hp'
      have hmem : ∀ y, y ∈ S.filter (fun y => decide (G.Rch y x)) ↔ y ∈ S ∧ G.Rch y x := fun y => by rw [List.mem_filter, decide_eq_true_eq]
      have hlt : (S.filter (fun y => decide (G.Rch y x))).length < S.length := by
        have h4 := List.length_filter_le (fun y => decide (G.Rch y x)) S
        rcases Nat.lt_or_eq_of_le h4 with q | q
        · exact q
        · exfalso
          have h5 := List.length_filter_eq_length_iff.1 q x hx
          rw [decide_eq_true_eq] at h5
          exact ok.acy x h5
      obtain ⟨z, hz, hzp⟩ := ih (S.filter (fun y => decide (G.Rch y x))) (by omega) (fun e => by
        have := (hmem p).2 ⟨hp2, .one ⟨h3 x hx, hp1⟩⟩
        rw [e] at this; cases this) (fun y hy => h3 y ((hmem y).1 hy).1)
      obtain ⟨hz1, hz2⟩ := (hmem z).1 hz
      refine ⟨z, hz1, fun q hq1 hq2 => hzp q hq1 ((hmem q).2 ⟨hq2, ?_⟩)⟩
      exact (Gr.Rch.one ⟨h3 z hz1, hq1⟩).trans hz2
end Go.Proofs.Ytolfioiccmmifaa
