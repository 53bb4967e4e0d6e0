/- Graphs of jobs, plain: edges, descent, Add, Done, Fail. No program is in sight. -/
import Derived.RowKit
namespace Go.Proofs.Ytolfioiccmmifaa
def upd {α : Type} (f : Nat → α) (i : Nat) (v : α) : Nat → α := fun j => if j = i then v else f j
theorem upd_same {α : Type} (f : Nat → α) (i : Nat) (v : α) : upd f i v i = v := by simp [upd]
theorem upd_ne {α : Type} (f : Nat → α) {i j : Nat} (v : α) (h : j ≠ i) : upd f i v j = f j := by simp [upd, h]
/-- A graph: what became of each job (0 absent, 1 open, 2 done, 3 failed), its rows (at 2 i its parents, at 2 i + 1 its children), how many parents aren't done. -/
structure Gr where
  st : Nat → Nat
  X : Nat → List Nat
  pe : Nat → Int
def Gr.pa (G : Gr) (i : Nat) : List Nat := G.X (2 * i)
def Gr.ch (G : Gr) (i : Nat) : List Nat := G.X (2 * i + 1)
/-- p is a parent of the job c. -/
def Gr.Par (G : Gr) (p c : Nat) : Prop := G.st c ≠ 0 ∧ p ∈ G.pa c
/-- x descends from a. -/
inductive Gr.Rch (G : Gr) : Nat → Nat → Prop
  | one {p c : Nat} : G.Par p c → Gr.Rch G p c
  | step {a b c : Nat} : Gr.Rch G a b → G.Par b c → Gr.Rch G a c
variable {G G' : Gr} {a b c id p : Nat} {l : List Nat}
theorem Gr.Rch.trans (h : G.Rch a b) (k : G.Rch b c) : G.Rch a c := by
  induction k with
  | one q => exact .step h q
  | step _ q ih => exact .step ih q
theorem Gr.Rch.head (h : G.Par a b) (k : b = c ∨ G.Rch b c) : G.Rch a c := by
  rcases k with rfl | k
  · exact .one h
  · exact (Gr.Rch.one h).trans k
theorem Gr.Rch.first (h : G.Rch a b) : ∃ c, G.Par a c ∧ (c = b ∨ G.Rch c b) := by
  induction h with
  | one q => exact ⟨_, q, .inl rfl⟩
  | step h q ih =>
    obtain ⟨c, h1, h2⟩ := ih
    refine ⟨c, h1, .inr ?_⟩
    rcases h2 with rfl | h2
    · exact .one q
    · exact .step h2 q
theorem Gr.Rch.last (h : G.Rch a b) : ∃ c, G.Par c b ∧ (c = a ∨ G.Rch a c) := by
  cases h with
  | one q => exact ⟨_, q, .inl rfl⟩
  | step h q => exact ⟨_, q, .inr h⟩
theorem Gr.Rch.same (h : ∀ p c, G.Par p c → G'.Par p c) (k : G.Rch a b) : G'.Rch a b := by
  induction k with
  | one q => exact .one (h _ _ q)
  | step _ q ih => exact .step ih (h _ _ q)
structure Gr.Ok (G : Gr) : Prop where
  rng : ∀ i, G.st i ≠ 0 → 1 ≤ i ∧ i ≤ 100
  pr : ∀ i p, p ∈ G.pa i → 1 ≤ p ∧ p ≤ 100
  abs : ∀ i, G.st i = 0 → G.pa i = []
  psort : ∀ i, (G.pa i).Pairwise (· < ·)
  chm : ∀ p c, c ∈ G.ch p ↔ G.Par p c
  chn : ∀ p, (G.ch p).Nodup
  pen : ∀ i, G.st i ≠ 0 → G.pe i = ((G.pa i).countP (fun p => decide (G.st p ≠ 2)) : Nat)
  acy : ∀ i, ¬ G.Rch i i
  dn : ∀ i, G.st i = 2 → ∀ p, p ∈ G.pa i → G.st p = 2
  fl : ∀ p c, G.st p = 3 → G.Par p c → G.st c = 3
  s3 : ∀ i, G.st i ≤ 3
theorem Gr.Ok.chr (h : G.Ok) (hc : c ∈ G.ch p) : (1 ≤ c ∧ c ≤ 100) ∧ 1 ≤ p ∧ p ≤ 100 := by
  obtain ⟨h1, h2⟩ := (h.chm p c).1 hc
  exact ⟨h.rng c h1, h.pr c p h2⟩
theorem Gr.Ok.rch (h : G.Ok) (hc : G.Rch a b) : (1 ≤ a ∧ a ≤ 100) ∧ 1 ≤ b ∧ b ≤ 100 := by
  obtain ⟨c, h1, -⟩ := hc.first
  obtain ⟨d, h2, -⟩ := hc.last
  exact ⟨h.pr _ _ h1.2, h.rng _ h2.1⟩
theorem nodup_len : ∀ {l m : List Nat}, l.Nodup → (∀ x ∈ l, x ∈ m) → l.length ≤ m.length
  | [], _, _, _ => Nat.zero_le _
  | x :: t, m, h, hs => by
    rw [List.nodup_cons] at h
    have hx := hs x (by simp)
    have ih := nodup_len (m := m.erase x) h.2 (fun y hy => (List.mem_erase_of_ne (fun e : y = x => h.1 (by rw [← e]; exact hy))).2 (hs y (by simp [hy])))
    rw [List.length_erase_of_mem hx] at ih
    have : 0 < m.length := List.length_pos_of_mem hx
    simp
    omega
/-- A list of different numbers up to 100 has at most 100. -/
theorem len100 {l : List Nat} (hn : l.Nodup) (hr : ∀ x ∈ l, 1 ≤ x ∧ x ≤ 100) : l.length ≤ 100 := by
  have h1 := nodup_len (m := List.range' 1 100) hn (fun x hx => by
    have := hr x hx
    rw [List.mem_range'_1]
    omega)
  simpa using h1
theorem Gr.Ok.chl (h : G.Ok) (p : Nat) : (G.ch p).length ≤ 100 := len100 (h.chn p) fun _ hx => (h.chr hx).1
theorem nodup_of_lt {l : List Nat} (h : l.Pairwise (· < ·)) : l.Nodup := h.imp (fun h => Nat.ne_of_lt h)
theorem Gr.Ok.pal (h : G.Ok) (i : Nat) : (G.pa i).length ≤ 100 := len100 (nodup_of_lt (h.psort i)) fun x hx => h.pr i x hx
/-- Rising lists with the same members are the same. -/
theorem rising_eq : ∀ {l m : List Nat}, l.Pairwise (· < ·) → m.Pairwise (· < ·) → (∀ x, x ∈ l ↔ x ∈ m) → l = m
  | [], [], _, _, _ => rfl
  | [], y :: t, _, _, h => by have := (h y).2 (by simp); cases this
  | x :: s, [], _, _, h => by have := (h x).1 (by simp); cases this
  | x :: s, y :: t, h1, h2, h => by
    rw [List.pairwise_cons] at h1 h2
    have exy : x = y := by
      have hx : x ∈ y :: t := (h x).1 (by simp)
      have hy : y ∈ x :: s := (h y).2 (by simp)
      rw [List.mem_cons] at hx hy
      rcases hx with e | e
      · exact e
      · rcases hy with e2 | e2
        · exact e2.symm
        · have := h2.1 x e; have := h1.1 y e2; omega
    subst exy
    congr 1
    refine rising_eq h1.2 h2.2 fun z => ⟨fun hz => ?_, fun hz => ?_⟩
    · have := (h z).1 (List.mem_cons_of_mem _ hz)
      rw [List.mem_cons] at this
      rcases this with rfl | e
      · have := h1.1 z hz; omega
      · exact e
    · have := (h z).2 (List.mem_cons_of_mem _ hz)
      rw [List.mem_cons] at this
      rcases this with rfl | e
      · have := h2.1 z hz; omega
      · exact e
open Classical in
/-- The numbers up to 100 of which Q holds, rising. -/
noncomputable def pick (Q : Nat → Prop) : List Nat := (List.range 101).filter (fun x => decide (Q x))
theorem pick_sorted (Q : Nat → Prop) : (pick Q).Pairwise (· < ·) := List.Pairwise.filter _ (List.pairwise_lt_range)
theorem pick_mem {Q : Nat → Prop} {x : Nat} : x ∈ pick Q ↔ x ≤ 100 ∧ Q x := by
  unfold pick
  rw [List.mem_filter, List.mem_range]
  simp
  omega
theorem pick_of {Q : Nat → Prop} {l : List Nat} (hs : l.Pairwise (· < ·)) (hm : ∀ x, x ∈ l ↔ x ≤ 100 ∧ Q x) : l = pick Q := rising_eq hs (pick_sorted Q) fun x => by rw [hm, pick_mem]
theorem pick_congr {Q R : Nat → Prop} (h : ∀ x, x ≤ 100 → (Q x ↔ R x)) : pick Q = pick R := pick_of (pick_sorted Q) fun x => by
  rw [pick_mem]
  constructor
  · exact fun q => ⟨q.1, (h x q.1).1 q.2⟩
  · exact fun q => ⟨q.1, (h x q.1).2 q.2⟩
/-- The links alone. -/
structure Gr.Lnk (G : Gr) : Prop where
  rng : ∀ i, G.st i ≠ 0 → 1 ≤ i ∧ i ≤ 100
  pr : ∀ i p, p ∈ G.pa i → 1 ≤ p ∧ p ≤ 100
  chm : ∀ p c, c ∈ G.ch p ↔ G.Par p c
  chn : ∀ p, (G.ch p).Nodup
theorem Gr.Ok.lnk (h : G.Ok) : G.Lnk := ⟨h.rng, h.pr, h.chm, h.chn⟩
theorem Gr.Lnk.chr (h : G.Lnk) (hc : c ∈ G.ch p) : (1 ≤ c ∧ c ≤ 100) ∧ 1 ≤ p ∧ p ≤ 100 := by
  obtain ⟨h1, h2⟩ := (h.chm p c).1 hc
  exact ⟨h.rng c h1, h.pr c p h2⟩
theorem Gr.Lnk.rch (h : G.Lnk) (hc : G.Rch a b) : (1 ≤ a ∧ a ≤ 100) ∧ 1 ≤ b ∧ b ≤ 100 := by
  obtain ⟨c, h1, -⟩ := hc.first
  obtain ⟨d, h2, -⟩ := hc.last
  exact ⟨h.pr _ _ h1.2, h.rng _ h2.1⟩
theorem Gr.Lnk.chl (h : G.Lnk) (p : Nat) : (G.ch p).length ≤ 100 := len100 (h.chn p) fun _ hx => (h.chr hx).1
/-- Add. -/
def Gr.addX (G : Gr) (id : Nat) (l : List Nat) (k : Nat) : List Nat := if k = 2 * id then l else if k % 2 = 1 ∧ k / 2 ∈ l then G.X k ++ [id] else G.X k
def Gr.cntN (G : Gr) (l : List Nat) : Nat := l.countP (fun p => decide (G.st p ≠ 2))
def Gr.add (G : Gr) (id : Nat) (l : List Nat) : Gr := ⟨upd G.st id 1, G.addX id l, upd G.pe id (G.cntN l : Nat)⟩
theorem add_pa (G : Gr) (id : Nat) (l : List Nat) (i : Nat) : (G.add id l).pa i = if i = id then l else G.pa i := by
  show G.addX id l (2 * i) = _
  unfold Gr.addX
  by_cases e : i = id
  · rw [if_pos (by omega), if_pos e]
  · rw [if_neg (by omega), if_neg (by omega), if_neg e]; rfl
theorem add_ch (G : Gr) (id : Nat) (l : List Nat) (i : Nat) : (G.add id l).ch i = if i ∈ l then G.ch i ++ [id] else G.ch i := by
  show G.addX id l (2 * i + 1) = _
  unfold Gr.addX
  rw [if_neg (by omega), show (2 * i + 1) / 2 = i by omega]
  by_cases e : i ∈ l
  · rw [if_pos ⟨by omega, e⟩, if_pos e]; rfl
  · rw [if_neg (fun q => e q.2), if_neg e]; rfl
theorem add_par (h : G.Ok) (h0 : G.st id = 0) : ∀ p c, (G.add id l).Par p c ↔ G.Par p c ∨ (c = id ∧ p ∈ l) := by
  intro p c
  unfold Gr.Par
  rw [add_pa]
  show upd G.st id 1 c ≠ 0 ∧ _ ↔ _
  by_cases e : c = id
  · subst e
    rw [upd_same, if_pos rfl, h0, h.abs c h0]
    simp
  · rw [upd_ne _ _ e, if_neg e]
    simp [e]
/-- What may be added. -/
structure Gr.Fit (G : Gr) (id : Nat) (l : List Nat) : Prop where
  i : 1 ≤ id ∧ id ≤ 100
  ab : G.st id = 0
  ls : l.Pairwise (· < ·)
  lr : ∀ p ∈ l, 1 ≤ p ∧ p ≤ 100
  cy : ∀ p ∈ l, p ≠ id ∧ ¬ G.Rch id p
  fa : ∀ p ∈ l, G.st p ≠ 3
theorem add_rch (h : G.Ok) (f : G.Fit id l) (hr : (G.add id l).Rch a b) : G.Rch a b ∨ ∃ p, p ∈ l ∧ (a = p ∨ G.Rch a p) ∧ (b = id ∨ G.Rch id b) := by
  induction hr with
  | @one c q =>
    rcases (add_par h f.ab a c).1 q with q2 | ⟨e, q2⟩
    · exact .inl (.one q2)
    · exact .inr ⟨a, q2, .inl rfl, .inl e⟩
  | @step b c hr q ih =>
    rcases (add_par h f.ab b c).1 q with q2 | ⟨e, q2⟩
    · rcases ih with ih | ⟨p, h1, h2, h3⟩
      · exact .inl (.step ih q2)
      · refine .inr ⟨p, h1, h2, .inr ?_⟩
        rcases h3 with rfl | h3
        · exact .one q2
        · exact .step h3 q2
    · rcases ih with ih | ⟨p, h1, h2, h3⟩
      · exact .inr ⟨b, q2, .inr ih, .inl e⟩
      · exfalso
        rcases h3 with h3 | h3
        · exact (f.cy _ q2).1 h3
        · exact (f.cy _ q2).2 h3
theorem add_old (h : G.Ok) (h0 : G.st id = 0) (hr : G.Rch a b) : (G.add id l).Rch a b := hr.same fun p c q => (add_par h h0 p c).2 (.inl q)
theorem cnt_st {G G' : Gr} {l : List Nat} (h : ∀ p ∈ l, (G'.st p ≠ 2 ↔ G.st p ≠ 2)) : G'.cntN l = G.cntN l := by
  unfold Gr.cntN
  refine List.countP_congr fun p hp => ?_
  simp only [decide_eq_true_eq]
  exact h p hp
theorem Gr.Ok.add (h : G.Ok) (f : G.Fit id l) : (G.add id l).Ok := by
  have hst : ∀ i, i ≠ id → (G.add id l).st i = G.st i := fun i hi => upd_ne _ _ hi
  have hsi : (G.add id l).st id = 1 := upd_same _ _ _
  refine ⟨fun i hi => ?_, fun i p hp => ?_, fun i hi => ?_, fun i => ?_, fun p c => ?_, fun p => ?_, fun i hi => ?_, fun i hi => ?_, fun i hi p hp => ?_, fun p c hp hpc => ?_, fun i => ?_⟩
  · by_cases e : i = id
    · rw [e]; exact f.i
    · rw [hst i e] at hi; exact h.rng i hi
  · rw [add_pa] at hp
    split at hp
    · exact f.lr p hp
    · exact h.pr i p hp
  · have e : i ≠ id := fun e => by rw [e, hsi] at hi; cases hi
    rw [add_pa, if_neg e]
    exact h.abs i (by rw [← hst i e]; exact hi)
  · rw [add_pa]
    split
    · exact f.ls
    · exact h.psort i
  · rw [add_ch, add_par h f.ab]
    split
    · next e => rw [List.mem_append, h.chm, List.mem_singleton]; simp [e]
    · next e => rw [h.chm]; simp [e]
  · rw [add_ch]
    split
    · refine List.nodup_append.2 ⟨h.chn p, by simp, fun x hx y hy => ?_⟩
      rw [List.mem_singleton] at hy
      subst hy
      intro e
      subst e
      exact ((h.chm p x).1 hx).1 f.ab
    · exact h.chn p
  · by_cases e : i = id
    · subst e
      rw [add_pa, if_pos rfl]
      show upd G.pe i _ i = _
      rw [upd_same]
      have := cnt_st (G := G) (G' := G.add i l) (l := l) fun p hp => by rw [hst p (f.cy p hp).1]
      unfold Gr.cntN at this
      rw [this]; rfl
    · rw [add_pa, if_neg e]
      show upd G.pe id _ i = _
      rw [upd_ne _ _ e, h.pen i (by rw [← hst i e]; exact hi)]
      have := cnt_st (G := G) (G' := G.add id l) (l := G.pa i) fun p hp => by
        by_cases e2 : p = id
        · rw [e2, hsi, f.ab]; simp
        · rw [hst p e2]
      unfold Gr.cntN at this
      rw [this]
  · rcases add_rch h f hi with q | ⟨p, h1, h2, h3⟩
    · exact h.acy i q
    · rcases h2 with rfl | h2
      · rcases h3 with rfl | h3
        · exact (f.cy _ h1).1 rfl
        · exact (f.cy _ h1).2 h3
      · rcases h3 with rfl | h3
        · exact (f.cy _ h1).2 h2
        · exact (f.cy _ h1).2 (h3.trans h2)
  · have e : i ≠ id := fun e => by rw [e, hsi] at hi; cases hi
    rw [hst i e] at hi
    rw [add_pa, if_neg e] at hp
    have h2 := h.dn i hi p hp
    have e2 : p ≠ id := fun e2 => by rw [e2, f.ab] at h2; cases h2
    rw [hst p e2]; exact h2
  · have e : p ≠ id := fun e => by rw [e, hsi] at hp; cases hp
    rw [hst p e] at hp
    rcases (add_par h f.ab _ _).1 hpc with q | ⟨rfl, q⟩
    · have h2 := h.fl p c hp q
      have e2 : c ≠ id := fun e2 => by rw [e2, f.ab] at h2; cases h2
      rw [hst c e2]; exact h2
    · exact absurd hp (f.fa p q)
  · by_cases e : i = id
    · rw [e, hsi]; omega
    · rw [hst i e]; exact h.s3 i
/-- Done. -/
def Gr.done (G : Gr) (id : Nat) : Gr := ⟨upd G.st id 2, G.X, fun c => if c ∈ G.ch id then G.pe c - 1 else G.pe c⟩
def Gr.free (G : Gr) (id : Nat) : Prop := G.st id = 1 ∧ G.pe id = 0
theorem countP_zero {l : List Nat} {q : Nat → Bool} : l.countP q = 0 ↔ ∀ x ∈ l, q x = false := by
  rw [List.countP_eq_zero]
  simp
theorem Gr.Ok.free (h : G.Ok) : G.free id ↔ G.st id = 1 ∧ ∀ p ∈ G.pa id, G.st p = 2 := by
  unfold Gr.free
  constructor
  · rintro ⟨h1, h2⟩
    refine ⟨h1, ?_⟩
    rw [h.pen id (by omega)] at h2
    have h3 : (G.pa id).countP (fun p => decide (G.st p ≠ 2)) = 0 := by omega
    rw [countP_zero] at h3
    intro p hp
    have := h3 p hp
    simpa using this
  · rintro ⟨h1, h2⟩
    refine ⟨h1, ?_⟩
    rw [h.pen id (by omega)]
    have h3 : (G.pa id).countP (fun p => decide (G.st p ≠ 2)) = 0 := countP_zero.2 fun p hp => by simp [h2 p hp]
    omega
theorem done_par (G : Gr) (h1 : G.st id ≠ 0) : ∀ p c, (G.done id).Par p c ↔ G.Par p c := by
  intro p c
  unfold Gr.Par
  show upd G.st id 2 c ≠ 0 ∧ _ ↔ _
  by_cases e : c = id
  · subst e; rw [upd_same]; simp [h1]; rfl
  · rw [upd_ne _ _ e]; rfl
theorem count_one {l : List Nat} {x : Nat} {q r : Nat → Bool} (hn : l.Nodup) (hq : ∀ y, y ≠ x → q y = r y) (h1 : q x = true) (h2 : r x = false) : l.countP q = l.countP r + if x ∈ l then 1 else 0 := by
  induction l with
  | nil => simp
  | cons y t ih =>
    rw [List.nodup_cons] at hn
    rw [List.countP_cons, List.countP_cons, ih hn.2]
    by_cases e : y = x
    · subst e
      simp [h1, h2, hn.1]
    · rw [hq y e]
      have e2 : x ≠ y := Ne.symm e
      simp [e2]
      omega
theorem Gr.Ok.done (h : G.Ok) (hf : G.free id) : (G.done id).Ok := by
  have hf2 := h.free.1 hf
  have hst : ∀ i, i ≠ id → (G.done id).st i = G.st i := fun i hi => upd_ne _ _ hi
  have hsi : (G.done id).st id = 2 := upd_same _ _ _
  have hpar := done_par (id := id) G (by rw [hf.1]; omega)
  have hne : ∀ i, ((G.done id).st i ≠ 0 ↔ G.st i ≠ 0) := fun i => by
    by_cases e : i = id
    · rw [e, hsi, hf.1]; simp
    · rw [hst i e]
  refine ⟨fun i hi => h.rng i ((hne i).1 hi), h.pr, fun i hi => h.abs i ?_, h.psort, fun p c => (h.chm p c).trans (hpar p c).symm, h.chn, fun i hi => ?_, fun i hi => h.acy i (hi.same fun p c q => (hpar p c).1 q), fun i hi p hp => ?_, fun p c hp hpc => ?_, fun i => ?_⟩
  · by_cases e : G.st i = 0
    · exact e
    · exact absurd hi ((hne i).2 e)
  · have hi0 := (hne i).1 hi
    have hp := h.pen i hi0
    have hc := count_one (l := G.pa i) (x := id) (q := fun p => decide (G.st p ≠ 2)) (r := fun p => decide ((G.done id).st p ≠ 2)) (nodup_of_lt (h.psort i)) (fun y hy => by simp only [hst y hy]) (by simp [hf.1]) (by simp [hsi])
    have hmem : (i ∈ G.ch id) ↔ id ∈ G.pa i := by
      rw [h.chm]
      exact ⟨fun q => q.2, fun q => ⟨hi0, q⟩⟩
    show (if i ∈ G.ch id then G.pe i - 1 else G.pe i) = ((G.pa i).countP (fun p => decide ((G.done id).st p ≠ 2)) : Nat)
    by_cases e : id ∈ G.pa i
    · rw [if_pos (hmem.2 e), hp, hc, if_pos e]; omega
    · rw [if_neg (fun q => e (hmem.1 q)), hp, hc, if_neg e]; omega
  · by_cases e : i = id
    · subst e
      have hp2 : p ∈ G.pa i := hp
      have h2 := hf2.2 p hp2
      by_cases e2 : p = i
      · rw [e2]; exact hsi
      · rw [hst p e2]; exact h2
    · rw [hst i e] at hi
      have h2 := h.dn i hi p hp
      by_cases e2 : p = id
      · rw [e2]; exact hsi
      · rw [hst p e2]; exact h2
  · have e : p ≠ id := fun e => by rw [e, hsi] at hp; cases hp
    rw [hst p e] at hp
    have h3 := h.fl p c hp ((hpar p c).1 hpc)
    have e2 : c ≠ id := fun e2 => by rw [e2, hf.1] at h3; cases h3
    rw [hst c e2]; exact h3
  · by_cases e : i = id
    · rw [e, hsi]; omega
    · rw [hst i e]; exact h.s3 i
open Classical in
/-- Fail. -/
noncomputable def Gr.fail (G : Gr) (id : Nat) : Gr := ⟨fun x => if x = id ∨ (G.Rch id x ∧ G.st x = 1) then 3 else G.st x, G.X, G.pe⟩
open Classical in
theorem fail_in {x : Nat} (h : x = id ∨ (G.Rch id x ∧ G.st x = 1)) : (G.fail id).st x = 3 := if_pos h
open Classical in
theorem fail_out {x : Nat} (h : ¬ (x = id ∨ (G.Rch id x ∧ G.st x = 1))) : (G.fail id).st x = G.st x := if_neg h
/-- What descends from an open job is open or failed. -/
theorem Gr.Ok.under (h : G.Ok) (ho : G.st id = 1) {x : Nat} (hr : G.Rch id x) : G.st x = 1 ∨ G.st x = 3 := by
  induction hr with
  | @one c q =>
    have h1 := h.s3 c
    have h0 := q.1
    have h2 : G.st c ≠ 2 := fun e => by
      have := h.dn c e id q.2
      rw [ho] at this; cases this
    omega
  | @step b c _ q ih =>
    have h1 := h.s3 c
    have h0 := q.1
    have h2 : G.st c ≠ 2 := fun e => by
      have := h.dn c e b q.2
      omega
    omega
theorem Gr.Ok.fail (h : G.Ok) (ho : G.st id = 1) : (G.fail id).Ok := by
  have hne : ∀ i, ((G.fail id).st i ≠ 0 ↔ G.st i ≠ 0) := fun i => by
    by_cases e : i = id ∨ (G.Rch id i ∧ G.st i = 1)
    · rw [fail_in e]
      rcases e with rfl | e
      · rw [ho]; simp
      · rw [e.2]; simp
    · rw [fail_out e]
  have hn2 : ∀ i, ((G.fail id).st i ≠ 2 ↔ G.st i ≠ 2) := fun i => by
    by_cases e : i = id ∨ (G.Rch id i ∧ G.st i = 1)
    · rw [fail_in e]
      rcases e with rfl | e
      · rw [ho]; simp
      · rw [e.2]; simp
    · rw [fail_out e]
  have hpar : ∀ p c, (G.fail id).Par p c ↔ G.Par p c := fun p c => and_congr (hne c) Iff.rfl
  refine ⟨fun i hi => h.rng i ((hne i).1 hi), h.pr, fun i hi => h.abs i ?_, h.psort, fun p c => (h.chm p c).trans (hpar p c).symm, h.chn, fun i hi => ?_, fun i hi => h.acy i (hi.same fun p c q => (hpar p c).1 q), fun i hi p hp => ?_, fun p c hp hpc => ?_, fun i => ?_⟩
  · by_cases e : G.st i = 0
    · exact e
    · exact absurd hi ((hne i).2 e)
  · show G.pe i = _
    rw [h.pen i ((hne i).1 hi)]
    have := cnt_st (G := G) (G' := G.fail id) (l := G.pa i) fun p _ => hn2 p
    unfold Gr.cntN at this
    exact congrArg Int.ofNat this.symm
  · have hi2 : G.st i = 2 := by
      by_cases e : G.st i = 2
      · exact e
      · exact absurd hi ((hn2 i).2 e)
    have h2 := h.dn i hi2 p hp
    by_cases e : (G.fail id).st p = 2
    · exact e
    · exact absurd h2 ((hn2 p).1 e)
  · have hpc2 := (hpar p c).1 hpc
    have key : G.Rch id c → (G.fail id).st c = 3 := fun hr => by
      by_cases e : c = id ∨ (G.Rch id c ∧ G.st c = 1)
      · exact fail_in e
      · rw [fail_out e]
        rcases h.under ho hr with q | q
        · exact absurd (.inr ⟨hr, q⟩) e
        · exact q
    by_cases e : p = id ∨ (G.Rch id p ∧ G.st p = 1)
    · rcases e with rfl | e
      · exact key (.one hpc2)
      · exact key (.step e.1 hpc2)
    · rw [fail_out e] at hp
      have h3 := h.fl p c hp hpc2
      by_cases e2 : c = id ∨ (G.Rch id c ∧ G.st c = 1)
      · exact fail_in e2
      · rw [fail_out e2]; exact h3
  · by_cases e : i = id ∨ (G.Rch id i ∧ G.st i = 1)
    · rw [fail_in e]; omega
    · rw [fail_out e]; exact h.s3 i
/-- The graph without jobs. -/
def gr0 : Gr := ⟨fun _ => 0, fun _ => [], fun _ => 0⟩
theorem ok0 : gr0.Ok := by
  have hp : ∀ p c, ¬ gr0.Par p c := fun p c q => q.1 rfl
  refine ⟨fun i hi => absurd rfl hi, (fun i p hp => nomatch hp), fun i _ => rfl, fun i => List.Pairwise.nil, fun p c => ⟨(fun q => nomatch q), fun q => absurd q (hp p c)⟩, fun p => List.nodup_nil, fun i hi => absurd rfl hi, fun i hi => ?_, (fun i hi => nomatch hi), (fun p c q => nomatch q), fun i => Nat.zero_le _⟩
  obtain ⟨c, q, -⟩ := hi.first
  exact hp _ _ q
end Go.Proofs.Ytolfioiccmmifaa
