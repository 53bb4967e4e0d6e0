/- Chapter 14's queue: what lies behind Push's steps (plain): the maps made, a heap made, the insertion, the store. -/
import Derived.Test.YtingeijodooocaaQuT
namespace Go.Proofs.Ytingeijodooocaa
open Go.RowKit
variable {B q nA nH c : Nat} {w w' : World} {m : Option (Nat × Nat)} {A : WMap} {Hm : HMap} {D : List UInt8 → Hd} {L : List Wt}
/-- The blocks of the queue itself. -/
def FootB (q : Nat) (m : Option (Nat × Nat)) (k : Nat) : Prop := k = q ∨ ∃ bm bh, m = some (bm, bh) ∧ (k = bm ∨ k = bh)
/-- All blocks of the queue. -/
def FootQ (q : Nat) (m : Option (Nat × Nat)) (Hm : HMap) (D : List UInt8 → Hd) (k : Nat) : Prop := FootB q m k ∨ ∃ t b, Hm t = some b ∧ (D t).foot k
theorem QuR.foot (h : QuR B w q m nA A nH Hm) {k : Nat} (hk : FootB q m k) : B ≤ k ∧ k < w.heap.size := by
  rcases hk with rfl | ⟨bm, bh, rfl, hk⟩
  · exact ⟨h.hB, h.ltq⟩
  · obtain ⟨h1, h2, h3, h4, -⟩ := h.on bm bh rfl
    rcases hk with rfl | rfl
    · exact ⟨h3, h1.lt⟩
    · exact ⟨h4, h2.lt⟩
theorem QuV.foot (h : QuV B w q m nA A nH Hm D L c) {k : Nat} (hk : FootQ q m Hm D k) : B ≤ k ∧ k < w.heap.size := by
  rcases hk with hk | ⟨t, b, e, hk⟩
  · exact h.r.foot hk
  · exact (h.hp t b e).2.1.foot hk
/-- The queue where none of its blocks has turned. -/
theorem QuV.kept (h : QuV B w q m nA A nH Hm D L c) (e : ∀ k, FootQ q m Hm D k → w'.heap[k]? = w.heap[k]?) : QuV B w' q m nA A nH Hm D L c :=
  { h with
    r := h.r.kept (e q (.inl (.inl rfl))) fun bm bh hm => ⟨e bm (.inl (.inr ⟨bm, bh, hm, .inl rfl⟩)), e bh (.inl (.inr ⟨bm, bh, hm, .inr rfl⟩))⟩
    hp := fun t b hb => by
      obtain ⟨a1, a2, a3⟩ := h.hp t b hb
      exact ⟨a1, a2.kept fun k hk => e k (.inr ⟨t, b, hb, hk⟩), a3⟩ }
theorem QuR.apart (h : QuR B w q m nA A nH Hm) {bm bh : Nat} (hm : m = some (bm, bh)) : bm ≠ q ∧ bh ≠ q ∧ bm ≠ bh := by
  obtain ⟨h1, h2, -, -, h5⟩ := h.on bm bh hm
  exact ⟨fun e => h1.ne h.blk e.symm, fun e => h2.ne h.blk e.symm, h5⟩
/-- What a call leaves: the queue at the list L, only the queue's blocks turned. -/
def QB2 (B : Nat) (w w' : World) (q : Nat) (m : Option (Nat × Nat)) (Hm : HMap) (D : List UInt8 → Hd) (L : List Wt) (c : Nat) : Prop :=
  ∃ m' nA' A' nH' Hm' D', QuV B w' q m' nA' A' nH' Hm' D' L c ∧ Tur (FootQ q m Hm D) w w' ∧ (∀ k, FootQ q m' Hm' D' k → FootQ q m Hm D k ∨ w.heap.size ≤ k)
def blkX (v : Wt) : Obj := .cells #[.int .i64 v.job, .string v.ten, .int .i64 v.pri] 29 (0, 0)
/-- Push, its maps there. -/
structure Pa (B : Nat) (w wx : World) (q : Nat) (m : Option (Nat × Nat)) (nA : Nat) (A : WMap) (nH : Nat) (Hm : HMap) (D : List UInt8 → Hd) (v : Wt) (bm bh : Nat) : Prop where
  r : QuR B wx q (some (bm, bh)) nA A nH Hm
  hq2 : ∀ t b, Hm t = some b → ∀ k, (D t).foot k → k ≠ bm ∧ k ≠ bh
  hb : m = some (bm, bh) ∨ (w.heap.size < bm ∧ w.heap.size < bh)
  tur : Tur (FootB q m) w wx
  blk : wx.heap[w.heap.size]? = some (blkX v)
variable {v : Wt} {bm bh nH' : Nat} {d : Hd} {wx w2 w3 w4 : World}
theorem Pa.nx (p : Pa B w w' q m nA A nH Hm D v bm bh) (h : QuV B w q m nA A nH Hm D L c) : w.heap.size ≠ q ∧ w.heap.size ≠ bm ∧ w.heap.size ≠ bh := by
  refine ⟨by have := h.r.ltq; omega, ?_⟩
  rcases p.hb with e | e
  · obtain ⟨h1, h2, -⟩ := h.r.on bm bh e
    have := h1.lt
    have := h2.lt
    omega
  · omega
theorem Pa.below (p : Pa B w w' q m nA A nH Hm D v bm bh) (hb : Below w'.heap.size w' w2) : Pa B w w2 q m nA A nH Hm D v bm bh :=
  ⟨p.r.below hb, p.hq2, p.hb, p.tur.then (Tur.of_below hb), (hb.block _ (lt_of_at p.blk)).trans p.blk⟩
theorem Pa.old (h : QuV B w q (some (bm, bh)) nA A nH Hm D L c) (hb : Below w.heap.size w w') (hx : w'.heap[w.heap.size]? = some (blkX v)) : Pa B w w' q (some (bm, bh)) nA A nH Hm D v bm bh :=
  ⟨h.r.below hb, fun t b e k hk => (h.aq t b e k hk).2 bm bh rfl, .inl rfl, Tur.of_below hb, hx⟩
/-- The maps are made. -/
theorem Pa.made (h : QuV B w q none nA A nH Hm D L c) (hb : Below w.heap.size w w') (hx : w'.heap[w.heap.size]? = some (blkX v)) :
    Pa B w ((((w'.setCell ⟨q, 0, none⟩ (.map (some w'.heap.size))).setCell ⟨q, 1, none⟩ (.map (some (w'.heap.size + 1)))).alloc (.map #[] 0)).alloc (.map #[] 0)) q none nA A nH Hm D v w'.heap.size (w'.heap.size + 1) := by
  obtain ⟨rfl, rfl, rfl, rfl⟩ := h.r.off rfl
  have hq := h.r.ltq
  have hqb := h.r.hB
  have h2 := h.r.below hb
  have hq2 := h2.ltq
  have hs := hb.size
  have hlx := lt_of_at hx
  obtain ⟨W, hW⟩ : ∃ W, W = (w'.setCell ⟨q, 0, none⟩ (.map (some w'.heap.size))).setCell ⟨q, 1, none⟩ (.map (some (w'.heap.size + 1))) := ⟨_, rfl⟩
  have hWs : W.heap.size = w'.heap.size := by rw [hW]; simp
  have t1 : Tur (FootB q none) w' W := by rw [hW]; exact (Tur.set (F := FootB q none) _ (.inl (.inl rfl))).then (Tur.set _ (.inl (.inl rfl)))
  have hblk : W.heap[q]? = some (.cells #[.map (some w'.heap.size), .map (some (w'.heap.size + 1))] 54 (0, 0)) := by
    rw [hW]
    exact (heap_setCell_same _ _ 1 _ _ _ (heap_setCell_same _ _ 0 _ _ _ h2.blk)).trans rfl
  have hxW : W.heap[w.heap.size]? = some (blkX v) := (t1.kept _ hlx (by rintro (e | ⟨x, y, e, -⟩); omega; cases e)).trans hx
  rw [← hW]
  have hI := OwnsI.made W Try.prog 2 mkW
  have hM := OwnsM.made (W.alloc (.map #[] 0)) Try.prog 9 mkH
  have hb3 : Below W.heap.size W ((W.alloc (.map #[] 0)).alloc (.map #[] 0)) := ((Below.refl _ _).alloc (Nat.le_refl _) _).alloc (by simp) _
  have e1 : ((W.alloc (.map #[] 0)).alloc (.map #[] 0)).heap[W.heap.size]? = (W.alloc (.map #[] 0)).heap[W.heap.size]? := Below.heap_alloc _ _ _ (by simp)
  have hI2 := hI.at e1
  simp only [World.size_alloc] at hM
  rw [hWs] at hI2 hM
  refine ⟨⟨hqb, (hb3.block q (by omega)).trans hblk, fun e => (by cases e), fun bm bh e => ?_⟩, fun t b e => (by cases e), .inr ⟨by omega, by omega⟩, ?_, ?_⟩
  · cases e
    exact ⟨hI2, hM, by omega, by omega, by omega⟩
  · exact ((Tur.of_below hb).then t1).then (Tur.of_below hb3)
  · exact (hb3.block _ (by omega)).trans hxW
/-- Push, the heap there. -/
structure Pc (B : Nat) (w wx : World) (q : Nat) (m : Option (Nat × Nat)) (nA : Nat) (A : WMap) (Hm : HMap) (D : List UInt8 → Hd) (c : Nat) (v : Wt) (bm bh nH' : Nat) (d : Hd) : Prop where
  r : QuR B wx q (some (bm, bh)) nA A nH' (putA Hm v.ky (some d.H))
  hd : MmV B wx d.H d.va d.vk d.vs d.S
  hl : Lnk d.S
  hi : Ivl (LtM d.S.k) d.S.n d.S.e
  hm : d.S.m ≤ c
  h1 : ∀ b, Hm v.ky = some b → d.S = (D v.ky).S
  h0 : Hm v.ky = none → d.S = mm0
  hf : ∀ k, d.foot k → (∃ b, Hm v.ky = some b ∧ (D v.ky).foot k) ∨ w.heap.size < k
  hq : ∀ k, d.foot k → k ≠ q ∧ k ≠ bm ∧ k ≠ bh
  hq2 : ∀ t b, Hm t = some b → ∀ k, (D t).foot k → k ≠ bm ∧ k ≠ bh
  hb : m = some (bm, bh) ∨ (w.heap.size < bm ∧ w.heap.size < bh)
  tur : Tur (FootB q m) w wx
  blk : wx.heap[w.heap.size]? = some (blkX v)
  hnH : nH' ≤ c + 1
theorem QuV.footB_ne (h : QuV B w q m nA A nH Hm D L c) {t : List UInt8} {b : Option Nat} (e : Hm t = some b) {k : Nat} (hk : (D t).foot k) : ¬ FootB q m k := by
  obtain ⟨a1, a2⟩ := h.aq t b e k hk
  rintro (q1 | ⟨x, y, q1, q2⟩)
  · exact a1 q1
  · obtain ⟨a3, a4⟩ := a2 x y q1
    rcases q2 with q2 | q2
    · exact a3 q2
    · exact a4 q2
theorem Pc.same (h : QuV B w q m nA A nH Hm D L c) (p : Pa B w wx q m nA A nH Hm D v bm bh) {b : Option Nat} (hK : Hm v.ky = some b) : Pc B w wx q m nA A Hm D c v bm bh nH (D v.ky) := by
  obtain ⟨a1, a2, a3, a4, a5, a6⟩ := h.hp _ b hK
  have e : putA Hm v.ky (some (D v.ky).H) = Hm := by
    funext t
    by_cases q1 : t = v.ky
    · rw [q1, putA_same, hK, a1]
    · rw [putA_other _ _ q1]
  refine ⟨by rw [e]; exact p.r, a2.kept fun k hk => p.tur.kept k (a2.foot hk).2 (h.footB_ne hK hk), a3, a4, a6, fun _ _ => rfl, fun e2 => (by rw [hK] at e2; cases e2), fun k hk => .inl ⟨b, hK, hk⟩, fun k hk => ⟨(h.aq _ b hK k hk).1, p.hq2 _ b hK k hk⟩, p.hq2, p.hb, p.tur, p.blk, by have := h.cnt.1; omega⟩
theorem Pc.fresh (h : QuV B w q m nA A nH Hm D L c) (p : Pa B w wx q m nA A nH Hm D v bm bh) (hK : Hm v.ky = none) {H : Nat} (hM : MmV B wx H (.slice none 0 0) (.slice none 0 0) (.slice none 0 0) mm0) (hH : w.heap.size < H)
    (ho : OwnsM w2 Try.prog 9 mkH bh (nH + 1) (putA Hm v.ky (some H))) (hg : wx.grownBy w2 (some bh)) : Pc B w w2 q m nA A Hm D c v bm bh (nH + 1) ⟨H, .slice none 0 0, .slice none 0 0, .slice none 0 0, mm0⟩ := by
  obtain ⟨o1, o2, b1, b2, b3⟩ := p.r.on bm bh rfl
  have hft : ∀ k, (⟨H, .slice none 0 0, .slice none 0 0, .slice none 0 0, mm0⟩ : Hd).foot k → k = H := fun k hk => by
    rcases hk with e | e | e | e
    · exact e
    all_goals cases e
  have hHm := o1.ne hM.blk
  have hHh := o2.ne hM.blk
  obtain ⟨n1, n2, n3⟩ := p.nx h
  have hap := p.r.apart rfl
  have hnH := h.cnt.1
  refine ⟨⟨p.r.hB, (hg.block _ p.r.ltq (fun e => hap.2.1 (by injection e with e; exact e.symm))).trans p.r.blk, fun e => (by cases e), fun x y e => ?_⟩, hM.kept fun k hk => ?_, lnk0, ivl0 _, Nat.zero_le _, fun b e => (by rw [hK] at e; cases e), fun _ => rfl, fun k hk => .inr (by rw [hft k hk]; exact hH), fun k hk => ?_, p.hq2, p.hb, ?_, ?_, by omega⟩
  · cases e
    exact ⟨o1.at (hg.block _ o1.lt (fun e => b3 (by injection e))), ho, b1, b2, b3⟩
  · have e : k = H := hft k hk
    subst e
    exact hg.block _ hM.ltH (fun e => hHh (by injection e))
  · have e := hft k hk
    subst e
    exact ⟨by have := h.r.ltq; omega, hHm, hHh⟩
  · refine p.tur.trans (Tur.of_grown (F := fun k => k = bh) hg (fun g e => .inl (by injection e with e; exact e.symm))) fun i hi => ?_
    subst hi
    rcases p.hb with e | e
    · exact .inl (.inr ⟨bm, _, e, .inr rfl⟩)
    · exact .inr (by omega)
  · rw [hg.block _ (lt_of_at p.blk) (fun e => n3 (by injection e))]
    exact p.blk
theorem Pc.nx (h : QuV B w q m nA A nH Hm D L c) (p : Pc B w wx q m nA A Hm D c v bm bh nH' d) : w.heap.size ≠ q ∧ w.heap.size ≠ bm ∧ w.heap.size ≠ bh ∧ ¬ d.foot w.heap.size := by
  refine ⟨by have := h.r.ltq; omega, ?_, ?_, fun hk => ?_⟩
  · rcases p.hb with e | e
    · have := (h.r.on bm bh e).1.lt; omega
    · omega
  · rcases p.hb with e | e
    · have := (h.r.on bm bh e).2.1.lt; omega
    · omega
  · rcases p.hf _ hk with ⟨b, e, hk⟩ | hk
    · have := ((h.hp _ b e).2.1.foot hk).2; omega
    · omega
/-- Behind the insertion. -/
theorem Pc.ins (h : QuV B w q m nA A nH Hm D L c) (p : Pc B w wx q m nA A Hm D c v bm bh nH' d) (ht : Tur d.foot wx w2) :
    QuR B w2 q (some (bm, bh)) nA A nH' (putA Hm v.ky (some d.H)) ∧ w2.heap[w.heap.size]? = some (blkX v) := by
  obtain ⟨o1, o2, -⟩ := p.r.on bm bh rfl
  obtain ⟨n1, n2, n3, n4⟩ := p.nx h
  refine ⟨p.r.kept (ht.kept _ p.r.ltq fun e => (p.hq _ e).1 rfl) fun x y e => ?_, (ht.kept _ (lt_of_at p.blk) n4).trans p.blk⟩
  cases e
  exact ⟨ht.kept _ o1.lt fun e => (p.hq _ e).2.1 rfl, ht.kept _ o2.lt fun e => (p.hq _ e).2.2 rfl⟩
theorem Pc.fin (h : QuV B w q m nA A nH Hm D L c) (p : Pc B w wx q m nA A Hm D c v bm bh nH' d) (hv : A v.job = none) (hj : 1 ≤ v.job ∧ v.job ≤ 100 ∧ 0 ≤ v.pri ∧ v.pri ≤ 100 ∧ v.ten.size ≤ maxLen) (hc : c + 1 ≤ 1000)
    {va' vk' vs' : Value} {T : Mm} (hM : MmV B w2 d.H va' vk' vs' T) (hl : Lnk T) (hi : Ivl (LtM T.k) T.n T.e) (hk : Kin (d.S.put (-v.pri, v.job, 0)) T) (hf : ∀ b, FootM d.H va' vk' vs' b → d.foot b ∨ wx.heap.size ≤ b) (ht : Tur d.foot wx w2)
    (hb3 : Below w2.heap.size w2 w3) (ho : OwnsI w4 Try.prog 2 mkW bm (nA + 1) (putI A v.job (v, d.S.m))) (hg : w3.grownBy w4 (some bm)) :
    QB2 B w w4 q m Hm D (insQ v L) (c + 1) := by
  obtain ⟨o1, o2, b1, b2, b3⟩ := p.r.on bm bh rfl
  obtain ⟨n1, n2, n3, n4⟩ := p.nx h
  obtain ⟨r2, -⟩ := p.ins h ht
  have r3 := r2.below hb3
  obtain ⟨o3, o4, -⟩ := r3.on bm bh rfl
  have hap := r3.apart rfl
  have hfd : ∀ k, (⟨d.H, va', vk', vs', T⟩ : Hd).foot k → (∃ b, Hm v.ky = some b ∧ (D v.ky).foot k) ∨ w.heap.size ≤ k := fun k hk2 => by
    rcases hf k hk2 with e | e
    · rcases p.hf k e with e | e
      · exact .inl e
      · exact .inr (by omega)
    · exact .inr (Nat.le_trans p.tur.size e)
  have hne : ∀ k, (⟨d.H, va', vk', vs', T⟩ : Hd).foot k → k ≠ q ∧ k ≠ bm ∧ k ≠ bh := fun k hk2 => by
    rcases hf k hk2 with e | e
    · exact p.hq k e
    · have := o1.lt; have := o2.lt; have := p.r.ltq; exact ⟨by omega, by omega, by omega⟩
  have hM3 := hM.below hb3
  have hqv := h.push (w' := w4) (S0 := d.S) (d := ⟨d.H, va', vk', vs', T⟩) (bm := bm) (bh := bh) (nH' := nH') hv hj hc p.hnH p.h1 p.h0
    ⟨p.r.hB, (hg.block _ r3.ltq (fun e => hap.1 (by injection e with e; exact e.symm))).trans r3.blk, fun e => (by cases e), fun x y e => (by
      cases e
      exact ⟨ho, o4.at (hg.block _ o4.lt (fun e => b3 (by injection e with e; exact e.symm))), b1, b2, b3⟩)⟩
    (hM3.kept fun k hk2 => hg.block _ (hM3.foot hk2).2 (fun e => (hne k hk2).2.1 (by injection e))) hl hi hk hfd
    (fun t b e hne2 k hk2 => by
      have hlt := ((h.hp t b e).2.1.foot hk2).2
      have hlx := Nat.lt_of_lt_of_le hlt p.tur.size
      have hl2 := Nat.lt_of_lt_of_le hlx ht.size
      have hnd : ¬ d.foot k := fun e2 => by
        rcases p.hf k e2 with ⟨b2, e3, e4⟩ | e3
        · exact h.ap t v.ky b b2 e e3 hne2 k hk2 e4
        · omega
      rw [hg.block _ (Nat.lt_of_lt_of_le hl2 hb3.size) (fun e2 => (p.hq2 t b e k hk2).1 (by injection e2)), hb3.block _ hl2, ht.kept _ hlx hnd, p.tur.kept _ hlt (h.footB_ne e hk2)])
    hne (fun t b e _ k hk2 => p.hq2 t b e k hk2)
  refine ⟨_, _, _, _, _, _, hqv, ?_, fun k hk2 => ?_⟩
  · refine (((p.tur.mono fun k e => .inl (.inl e)).trans ht fun k e => ?_).then (Tur.of_below hb3)).trans (Tur.of_grown (F := fun k => k = bm) hg (fun g e => .inl (by injection e with e; exact e.symm))) fun k e => ?_
    · rcases p.hf k e with ⟨b, e2, e3⟩ | e2
      · exact .inl (.inr ⟨_, b, e2, e3⟩)
      · exact .inr (by omega)
    · subst e
      rcases p.hb with e | e
      · exact .inl (.inl (.inr ⟨_, bh, e, .inl rfl⟩))
      · exact .inr (by omega)
  · rcases hk2 with (e | ⟨x, y, e, e2⟩) | ⟨t, b, e, hk2⟩
    · exact .inl (.inl (.inl e))
    · cases e
      rcases p.hb with e3 | e3
      · exact .inl (.inl (.inr ⟨bm, bh, e3, e2⟩))
      · exact .inr (by rcases e2 with e2 | e2 <;> omega)
    · by_cases q1 : t = v.ky
      · rw [q1, updD_same] at hk2
        rcases hfd k hk2 with ⟨b2, e2, e3⟩ | e2
        · exact .inl (.inr ⟨_, b2, e2, e3⟩)
        · exact .inr e2
      · rw [updD_ne _ _ q1] at hk2
        rw [putA_other _ _ q1] at e
        exact .inl (.inr ⟨t, b, e, hk2⟩)
end Go.Proofs.Ytingeijodooocaa
