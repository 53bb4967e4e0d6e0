/- Fibonacci heaps, plain: Meld. No program is in sight. -/
import Derived.Test.YthdbiablpkeagaaFbD
import Derived.RowKit
import Derived.IntWalk
namespace Go.Proofs.Ythdbiablpkeagaa
open Go.RowKit
/-- A handle moved (as the machine reckons it). -/
def shA (a : Nat) (z : Int) : Int := wrap64 (z + a)
def shP (a : Nat) (z : Int) : Int := if z = -1 then -1 else shA a z
theorem shA_in {a M : Nat} {z : Int} (h : -1 ≤ z ∧ z ≤ (M : Int)) (hm : a + M ≤ 1048576) : shA a z = z + a := IntWalk.wrap64_in _ (by omega)
/-- The entries of o behind those of s, their relatives' handles moved. -/
def Hp.cat (s o : Hp) : Hp :=
  ⟨s.m + o.m, fun z => if z < s.m then s.key z else o.key (z - s.m), fun z => if z < s.m then s.par z else shP s.m (o.par (z - s.m)), fun z => if z < s.m then s.ch z else shP s.m (o.ch (z - s.m)),
    fun z => if z < s.m then s.lf z else shA s.m (o.lf (z - s.m)), fun z => if z < s.m then s.rt z else shA s.m (o.rt (z - s.m)), fun z => if z < s.m then s.dg z else o.dg (z - s.m),
    fun z => if z < s.m then s.mr z else o.mr (z - s.m), fun z => if z < s.m then s.th z else o.th (z - s.m)⟩
variable {s o : Hp} {kids okids : Nat → List Nat} {L oL : List Nat} {least ol n on : Int}
theorem cat_lo (s o : Hp) {z : Nat} (h : z < s.m) : (s.cat o).key z = s.key z ∧ (s.cat o).par z = s.par z ∧ (s.cat o).ch z = s.ch z ∧ (s.cat o).lf z = s.lf z ∧ (s.cat o).rt z = s.rt z ∧ (s.cat o).dg z = s.dg z ∧ (s.cat o).mr z = s.mr z ∧ (s.cat o).th z = s.th z := by
  simp [Hp.cat, h]
theorem cat_hi (s o : Hp) (y : Nat) : (s.cat o).key (y + s.m) = o.key y ∧ (s.cat o).par (y + s.m) = shP s.m (o.par y) ∧ (s.cat o).ch (y + s.m) = shP s.m (o.ch y) ∧ (s.cat o).lf (y + s.m) = shA s.m (o.lf y) ∧ (s.cat o).rt (y + s.m) = shA s.m (o.rt y) ∧ (s.cat o).dg (y + s.m) = o.dg y ∧ (s.cat o).mr (y + s.m) = o.mr y ∧ (s.cat o).th (y + s.m) = o.th y := by
  have h : ¬ y + s.m < s.m := by omega
  simp [Hp.cat, h]
def catK (s : Hp) (kids okids : Nat → List Nat) (z : Nat) : List Nat := if z < s.m then kids z else (okids (z - s.m)).map (· + s.m)
theorem catK_lo {z : Nat} (h : z < s.m) : catK s kids okids z = kids z := if_pos h
theorem catK_hi (y : Nat) : catK s kids okids (y + s.m) = (okids y).map (· + s.m) := by
  unfold catK
  rw [if_neg (by omega), Nat.add_sub_cancel]
theorem split_m (s : Hp) (z : Nat) : z < s.m ∨ ∃ y, z = y + s.m := by
  by_cases h : z < s.m
  · exact .inl h
  · exact .inr ⟨z - s.m, by omega⟩
theorem Lk.shift {lf rt lf' rt' : Nat → Int} {m : Nat} : ∀ {l : List Nat}, (∀ y ∈ l, lf' (y + m) = lf y + m ∧ rt' (y + m) = rt y + m) → Lk lf rt l → Lk lf' rt' (l.map (· + m))
  | [], _, _ => trivial
  | [_], _, _ => trivial
  | a :: b :: t, h, ⟨e1, e2, e3⟩ => by
    refine ⟨?_, ?_, Lk.shift (l := b :: t) (fun y hy => h y (List.mem_cons_of_mem _ hy)) e3⟩
    · rw [(h a (by simp)).2, e1]; show (b : Int) + m = ((b + m : Nat) : Int); omega
    · rw [(h b (by simp)).1, e2]; show (a : Int) + m = ((a + m : Nat) : Int); omega
theorem Ring.shift {lf rt lf' rt' : Nat → Int} {m : Nat} {l : List Nat} (h : Ring lf rt l) (e : ∀ y ∈ l, lf' (y + m) = lf y + m ∧ rt' (y + m) = rt y + m) : Ring lf' rt' (l.map (· + m)) := by
  cases l with
  | nil => trivial
  | cons a t =>
    have := Lk.shift (l := a :: t ++ [a]) (m := m) (lf' := lf') (rt' := rt') (fun y hy => e y (by
      rcases List.mem_append.1 hy with q | q
      · exact q
      · rw [List.mem_singleton] at q; rw [q]; simp)) h
    rw [List.map_append] at this
    exact this
theorem Ring.bd {lf rt : Nat → Int} {l : List Nat} {M : Nat} (h : Ring lf rt l) (hM : ∀ y ∈ l, y < M) : ∀ y ∈ l, (-1 ≤ lf y ∧ lf y ≤ (M : Int)) ∧ (-1 ≤ rt y ∧ rt y ≤ (M : Int)) := by
  intro y hy
  obtain ⟨u, t, e⟩ := List.append_of_mem hy
  rw [e] at h
  have h1 : Ring lf rt (y :: (t ++ u)) := Ring.turns (u := u) (t := y :: t) h
  have hm : ∀ z, z ∈ y :: (t ++ u) → z < M := fun z hz => hM z (by
    rw [e]
    simp only [List.mem_cons, List.mem_append] at hz ⊢
    rcases hz with q | q | q
    · exact .inr (.inl q)
    · exact .inr (.inr q)
    · exact .inl q)
  have hl := h1.left
  have hr := h1.right
  have b1 := hm _ (List.getLast_mem (l := y :: (t ++ u)) (by simp))
  have b2 := hm ((t ++ u ++ [y]).head (by simp)) (by
    have : (t ++ u ++ [y]).head (by simp) ∈ t ++ u ++ [y] := List.head_mem _
    simp only [List.mem_append, List.mem_cons, List.not_mem_nil, or_false] at this ⊢
    rcases this with (q | q) | q
    · exact .inr (.inl q)
    · exact .inr (.inr q)
    · exact .inl q)
  rw [hl, hr]
  omega
theorem hd_shift {m M : Nat} {l : List Nat} (hM : ∀ y ∈ l, y < M) (hm : m + M ≤ 1048576) : hd (l.map (· + m)) = shP m (hd l) := by
  cases l with
  | nil => rfl
  | cons a t =>
    show ((a + m : Nat) : Int) = shP m (a : Int)
    have := hM a (by simp)
    unfold shP
    rw [if_neg (by omega), shA_in (M := M) ⟨by omega, by omega⟩ hm]
    omega
theorem ltk_shift {k l : K3} {a b m : Nat} (h : Ltk k a l b) : Ltk k (a + m) l (b + m) := by unfold Ltk at *; omega
theorem nodup_shift {l : List Nat} (m : Nat) (h : l.Nodup) : (l.map (· + m)).Nodup := by
  unfold List.Nodup at *
  rw [List.pairwise_map]
  exact h.imp fun h e => h (by omega)
theorem mem_shift {l : List Nat} {m y : Nat} : y + m ∈ l.map (· + m) ↔ y ∈ l := by
  rw [List.mem_map]
  constructor
  · rintro ⟨z, hz, e⟩
    have : z = y := by omega
    rw [← this]; exact hz
  · intro h; exact ⟨y, h, rfl⟩
theorem Frst.cat (h : Frst s kids none L) (k : Frst o okids none oL) (hm : s.m + o.m ≤ 1048576) : Frst (s.cat o) (catK s kids okids) none (L ++ oL.map (· + s.m)) := by
  have lo : ∀ z, s.th z = true → z < s.m := h.ltm
  have hth : ∀ z, (s.cat o).th z = true → (z < s.m ∧ s.th z = true) ∨ ∃ y, z = y + s.m ∧ o.th y = true := fun z hz => by
    rcases split_m s z with q | ⟨y, rfl⟩
    · rw [(cat_lo s o q).2.2.2.2.2.2.2] at hz; exact .inl ⟨q, hz⟩
    · rw [(cat_hi s o y).2.2.2.2.2.2.2] at hz; exact .inr ⟨y, rfl, hz⟩
  have tlo : ∀ z, s.th z = true → (s.cat o).th z = true := fun z hz => by rw [(cat_lo s o (lo z hz)).2.2.2.2.2.2.2]; exact hz
  have thi : ∀ y, o.th y = true → (s.cat o).th (y + s.m) = true := fun y hy => by rw [(cat_hi s o y).2.2.2.2.2.2.2]; exact hy
  refine ⟨fun z hz => ?_, fun z hz => ?_, fun z hz c hc => ?_, fun z hz => ?_, fun z hz => ?_, fun z hz => ?_, fun z hz => ?_, fun z hz t => ?_, ?_, fun z hz => ?_, fun z hz => ?_⟩
  · show z < s.m + o.m
    rcases hth z hz with ⟨q, -⟩ | ⟨y, rfl, q⟩
    · omega
    · have := k.ltm y q; omega
  · rcases hth z hz with ⟨q, q2⟩ | ⟨y, rfl, q⟩
    · rw [(cat_lo s o q).1]; exact h.okk z q2
    · rw [(cat_hi s o y).1]; exact k.okk y q
  · rcases hth z hz with ⟨q, q2⟩ | ⟨y, rfl, q⟩
    · rw [catK_lo q] at hc
      obtain ⟨h1, h2, h3, h4⟩ := h.kth z q2 c hc
      refine ⟨tlo c h1, by rw [(cat_lo s o (lo c h1)).2.1]; exact h2, h3, ?_⟩
      unfold Hp.lt at *
      rw [(cat_lo s o q).1, (cat_lo s o (lo c h1)).1]
      exact h4
    · rw [catK_hi] at hc
      obtain ⟨c', hc', rfl⟩ := List.mem_map.1 hc
      obtain ⟨h1, h2, h3, h4⟩ := k.kth y q c' hc'
      refine ⟨thi c' h1, ?_, by omega, .inr ?_⟩
      · have := k.ltm y q
        rw [(cat_hi s o c').2.1, h2]
        unfold shP
        rw [if_neg (by omega), shA_in (M := o.m) ⟨by omega, by omega⟩ hm]
        omega
      · unfold Hp.lt at *
        rw [(cat_hi s o y).1, (cat_hi s o c').1]
        exact ltk_shift (h4.resolve_left (by simp))
  · rcases hth z hz with ⟨q, q2⟩ | ⟨y, rfl, q⟩
    · rw [catK_lo q]; exact h.knd z q2
    · rw [catK_hi]; exact nodup_shift _ (k.knd y q)
  · rcases hth z hz with ⟨q, q2⟩ | ⟨y, rfl, q⟩
    · rw [catK_lo q]
      exact (h.krg z q2).congr fun c hc => by
        have := cat_lo s o (lo c (h.kth z q2 c hc).1)
        exact ⟨this.2.2.2.2.1, this.2.2.2.1⟩
    · rw [catK_hi]
      exact (k.krg y q).shift fun c hc => by
        have := cat_hi s o c
        have b := (k.krg y q).bd (fun z hz => k.ltm z (k.kth y q z hz).1) c hc
        exact ⟨this.2.2.2.1.trans (shA_in b.1 hm), this.2.2.2.2.1.trans (shA_in b.2 hm)⟩
  · rcases hth z hz with ⟨q, q2⟩ | ⟨y, rfl, q⟩
    · rw [catK_lo q, (cat_lo s o q).2.2.1]; exact h.kch z q2
    · rw [catK_hi, (cat_hi s o y).2.2.1, hd_shift (M := o.m) (fun z hz => k.ltm z (k.kth y q z hz).1) hm, k.kch y q]
  · rcases hth z hz with ⟨q, q2⟩ | ⟨y, rfl, q⟩
    · rw [catK_lo q, (cat_lo s o q).2.2.2.2.2.1]; exact h.kdg z q2
    · rw [catK_hi, (cat_hi s o y).2.2.2.2.2.1, List.length_map]; exact k.kdg y q
  · rcases hth z hz with ⟨q, q2⟩ | ⟨y, rfl, q⟩
    · rw [catK_lo q]
      refine Nat.le_trans (Nat.le_of_eq (List.countP_congr fun c hc => ?_)) (h.kbn z q2 t)
      have hc' := lo c (h.kth z q2 c hc).1
      unfold vl
      rw [catK_lo hc', (cat_lo s o hc').2.2.2.2.2.2.1]
    · rw [catK_hi, List.countP_map]
      refine Nat.le_trans (Nat.le_of_eq (List.countP_congr fun c hc => ?_)) (k.kbn y q t)
      show decide (vl (s.cat o) (catK s kids okids) none (c + s.m) < t) = true ↔ _
      unfold vl
      rw [catK_hi, (cat_hi s o c).2.2.2.2.2.2.1, List.length_map]
      simp
  · refine List.nodup_append.2 ⟨h.lnd, nodup_shift _ k.lnd, fun a ha b hb e => ?_⟩
    obtain ⟨c, -, rfl⟩ := List.mem_map.1 hb
    have := lo a (h.lth a ha).1
    omega
  · rcases List.mem_append.1 hz with q | q
    · obtain ⟨h1, h2⟩ := h.lth z q
      refine ⟨tlo z h1, fun p hp hm => ?_⟩
      rcases hth p hp with ⟨r, r2⟩ | ⟨y, rfl, r⟩
      · rw [catK_lo r] at hm; exact h2 p r2 hm
      · rw [catK_hi] at hm
        obtain ⟨c, -, e⟩ := List.mem_map.1 hm
        have := lo z h1
        omega
    · obtain ⟨y, hy, rfl⟩ := List.mem_map.1 q
      obtain ⟨h1, h2⟩ := k.lth y hy
      refine ⟨thi y h1, fun p hp hm => ?_⟩
      rcases hth p hp with ⟨r, r2⟩ | ⟨p', rfl, r⟩
      · rw [catK_lo r] at hm
        have := lo _ (h.kth p r2 _ hm).1
        omega
      · rw [catK_hi, mem_shift] at hm; exact h2 p' r hm
  · rcases hth z hz with ⟨q, q2⟩ | ⟨y, rfl, q⟩
    · rcases h.cov z q2 with r | ⟨p, hp, r⟩
      · exact .inl (List.mem_append.2 (.inl r))
      · exact .inr ⟨p, tlo p hp, by rw [catK_lo (lo p hp)]; exact r⟩
    · rcases k.cov y q with r | ⟨p, hp, r⟩
      · exact .inl (List.mem_append.2 (.inr (mem_shift.2 r)))
      · exact .inr ⟨p + s.m, thi p hp, by rw [catK_hi]; exact mem_shift.2 r⟩
theorem count_cat (f g : Nat → Bool) (m : Nat) : ∀ k, (List.range (m + k)).countP (fun z => if z < m then f z else g (z - m)) = (List.range m).countP f + (List.range k).countP g
  | 0 => by
    rw [Nat.add_zero, List.range_zero, List.countP_nil, Nat.add_zero]
    exact List.countP_congr fun z hz => by
      have : z < m := by simpa using hz
      simp [this]
  | k + 1 => by
    rw [← Nat.add_assoc, List.range_succ, List.countP_append, count_cat f g m k, List.range_succ, List.countP_append, Nat.add_assoc]
    congr 2
    have : ¬ m + k < m := by omega
    simp [this]
/-- What Meld does to the two rings of roots. -/
def Hp.meldS (s : Hp) (x y a b : Nat) : Hp := { s with lf := up (up s.lf x (y : Int)) b (a : Int), rt := up (up s.rt y (x : Int)) a (b : Int) }
/-- The roots of both, beside one another. -/
theorem Rts.lo (h : Rts s least L) (hf : Frst s kids none L) : Rts (s.cat o) least L := by
  have lo : ∀ z ∈ L, z < s.m := fun z hz => hf.ltm z (hf.lth z hz).1
  refine ⟨h.rg.congr fun y hy => ⟨(cat_lo s o (lo y hy)).2.2.2.2.1, (cat_lo s o (lo y hy)).2.2.2.1⟩, h.nd, fun r hr => ?_, h.le, fun r t e z hz => ?_⟩
  · rw [(cat_lo s o (lo r hr)).2.1, (cat_lo s o (lo r hr)).2.2.2.2.2.2.1]; exact h.rp r hr
  · have := h.mn r t e z hz
    subst e
    unfold Hp.lt at *
    rw [(cat_lo s o (lo r (by simp))).1, (cat_lo s o (lo z (List.mem_cons_of_mem _ hz))).1]
    exact this
theorem Rts.hi (h : Rts o ol oL) (hL : ∀ y ∈ oL, y < o.m) (hm : s.m + o.m ≤ 1048576) : Rts (s.cat o) (if ol = 0 then 0 else ol + s.m) (oL.map (· + s.m)) := by
  refine ⟨h.rg.shift fun y hy => ⟨(cat_hi s o y).2.2.2.1.trans (shA_in (h.rg.bd hL y hy).1 hm), (cat_hi s o y).2.2.2.2.1.trans (shA_in (h.rg.bd hL y hy).2 hm)⟩, nodup_shift _ h.nd, fun r hr => ?_, ?_, fun r t e z hz => ?_⟩
  · obtain ⟨y, hy, rfl⟩ := List.mem_map.1 hr
    rw [(cat_hi s o y).2.1, (cat_hi s o y).2.2.2.2.2.2.1, (h.rp y hy).1]
    exact ⟨rfl, (h.rp y hy).2⟩
  · rw [h.le]
    cases oL with
    | nil => rfl
    | cons a t =>
      show (if (a : Int) + 1 = 0 then 0 else (a : Int) + 1 + s.m) = ((a + s.m : Nat) : Int) + 1
      rw [if_neg (by omega)]
      omega
  · cases oL with
    | nil => cases e
    | cons a t' =>
      simp only [List.map_cons, List.cons.injEq] at e
      obtain ⟨rfl, rfl⟩ := e
      obtain ⟨y, hy, rfl⟩ := List.mem_map.1 hz
      have := h.mn a t' rfl y hy
      unfold Hp.lt at *
      rw [(cat_hi s o a).1, (cat_hi s o y).1]
      exact ltk_shift this
/-- The two rings of roots are made one. -/
theorem Rts.meld {R Q : List Nat} {x y a b : Nat} {u t : List Nat} (hF : Frst s kids none L) (hR : Rts s least R) (hQ : Rts s ol Q) (hp : (R ++ Q).Perm L) (eR : R = y :: t) (eQ : Q = x :: u) (ha : s.lf x = (a : Int)) (hb : s.rt y = (b : Int)) :
    (a ∈ L ∧ b ∈ L ∧ x ∈ L ∧ y ∈ L ∧ a ∈ Q ∧ b ∈ R) ∧ Frst (s.meldS x y a b) kids none L ∧ ∃ R', R'.Perm L ∧ Rts (s.meldS x y a b) (if s.lt x y then (x : Int) + 1 else (y : Int) + 1) R' := by
  subst eR eQ
  have hnd := hp.nodup_iff.2 hF.lnd
  obtain ⟨-, -, hdis⟩ := List.nodup_append.1 hnd
  have hd : ∀ z ∈ x :: u, z ∉ y :: t := fun z hz hz2 => hdis z hz2 z hz rfl
  have hring := Ring.meld hQ.rg hR.rg hQ.nd hR.nd hd ha hb
  have hmL : ∀ z, z ∈ y :: t ∨ z ∈ x :: u → z ∈ L := fun z hz => hp.mem_iff.1 (List.mem_append.2 hz)
  have haq : a ∈ x :: u := by
    have h1 := hQ.rg.left
    have h2 : (x :: u).getLast (by simp) ∈ x :: u := List.getLast_mem _
    rw [ha] at h1
    have : a = (x :: u).getLast (by simp) := by omega
    rw [this]; exact h2
  have hbr : b ∈ y :: t := by
    have h1 := hR.rg.right
    have h2 : (t ++ [y]).head (by simp) ∈ t ++ [y] := List.head_mem _
    rw [hb] at h1
    have e : b = (t ++ [y]).head (by simp) := by omega
    rw [← e] at h2
    simp only [List.mem_append, List.mem_singleton] at h2
    simp only [List.mem_cons]
    exact h2.symm
  have hxL := hmL x (.inr (by simp))
  have hyL := hmL y (.inl (by simp))
  have hxy : x ≠ y := fun e => hd x (by simp) (by simp [e])
  have hP : (y :: x :: u ++ t).Perm L := by
    refine List.Perm.trans ?_ hp
    show (y :: (x :: u ++ t)).Perm (y :: (t ++ x :: u))
    exact List.Perm.cons y List.perm_append_comm
  have hokk : ∀ z ∈ L, okK (s.key z) := fun z hz => hF.okk z (hF.lth z hz).1
  refine ⟨⟨hmL a (.inr haq), hmL b (.inl hbr), hxL, hyL, haq, hbr⟩, hF.tops rfl rfl rfl (fun _ _ => rfl) (fun _ _ => rfl) fun z hz _ => ?_, ?_⟩
  · have h1 : z ≠ x := fun e => hz (by rw [e]; exact hxL)
    have h2 : z ≠ y := fun e => hz (by rw [e]; exact hyL)
    have h3 : z ≠ a := fun e => hz (by rw [e]; exact hmL a (.inr haq))
    have h4 : z ≠ b := fun e => hz (by rw [e]; exact hmL b (.inl hbr))
    refine ⟨rfl, ?_, ?_, rfl⟩
    · show up (up s.lf x (y : Int)) b (a : Int) z = s.lf z
      rw [up_ne _ _ h4, up_ne _ _ h1]
    · show up (up s.rt y (x : Int)) a (b : Int) z = s.rt z
      rw [up_ne _ _ h3, up_ne _ _ h2]
  · have hrp : ∀ z ∈ L, s.par z = -1 ∧ s.mr z = false := fun z hz => by
      rcases List.mem_append.1 (hp.mem_iff.2 hz) with q | q
      · exact hR.rp z q
      · exact hQ.rp z q
    by_cases hl : s.lt x y
    · rw [if_pos hl]
      have hT : Ring (up (up s.lf x (y : Int)) b (a : Int)) (up (up s.rt y (x : Int)) a (b : Int)) (x :: u ++ t ++ [y]) := Ring.turn hring
      have hP2 : (x :: u ++ t ++ [y]).Perm L := List.Perm.trans (List.perm_append_singleton y (x :: u ++ t)) hP
      refine ⟨x :: u ++ t ++ [y], hP2, ⟨hT, hP2.nodup_iff.2 hF.lnd, fun r hr => hrp r (hP2.mem_iff.1 hr), rfl, fun r t' e z hz => ?_⟩⟩
      injection e with e5 e6
      subst e5 e6
      rcases List.mem_append.1 hz with q | q
      · rcases List.mem_append.1 q with q | q
        · exact hQ.mn x u rfl z q
        · exact ltk_tr (hokk x hxL) (hokk y hyL) (hokk z (hmL z (.inl (List.mem_cons_of_mem _ q)))) hl (hR.mn y t rfl z q)
      · rw [List.mem_singleton] at q
        subst q
        exact hl
    · rw [if_neg hl]
      have hl' : s.lt y x := (ltk_tot hxy).resolve_left hl
      refine ⟨y :: x :: u ++ t, hP, ⟨hring, hP.nodup_iff.2 hF.lnd, fun r hr => hrp r (hP.mem_iff.1 hr), rfl, fun r t' e z hz => ?_⟩⟩
      injection e with e5 e6
      subst e5 e6
      rcases List.mem_append.1 hz with q | q
      · rcases List.mem_cons.1 q with rfl | q
        · exact hl'
        · exact ltk_tr (hokk y hyL) (hokk x hxL) (hokk z (hmL z (.inr (List.mem_cons_of_mem _ q)))) hl' (hQ.mn x u rfl z q)
      · exact hR.mn y t rfl z q
/-- What Meld makes of both heaps. -/
def Hp.catS (s : Hp) (least : Int) (o : Hp) (ol : Int) : Hp :=
  if ol = 0 ∨ least = 0 then s.cat o
  else (s.cat o).meldS ((ol - 1).toNat + s.m) (least - 1).toNat ((s.cat o).lf ((ol - 1).toNat + s.m)).toNat ((s.cat o).rt (least - 1).toNat).toNat
def Hp.catL (s : Hp) (least : Int) (o : Hp) (ol : Int) : Int :=
  if ol = 0 then least else if least = 0 then ol + s.m else if (s.cat o).lt ((ol - 1).toNat + s.m) (least - 1).toNat then ol + s.m else least
theorem catS_same (s : Hp) (least : Int) (o : Hp) (ol : Int) : (s.catS least o ol).m = s.m + o.m ∧ (s.catS least o ol).key = (s.cat o).key ∧ (s.catS least o ol).th = (s.cat o).th := by
  unfold Hp.catS
  split <;> exact ⟨rfl, rfl, rfl⟩
theorem Good.meld (h : Good s least n) (k : Good o ol on) (hm : s.m + o.m ≤ 1048576) : Good (s.catS least o ol) (s.catL least o ol) (n + on) ∧
    (ol = 0 ∨ least = 0 ∨ ∃ x y a b : Nat, ol = (x : Int) + 1 ∧ least = (y : Int) + 1 ∧ x < o.m ∧ y < s.m ∧ a < s.m + o.m ∧ b < s.m + o.m ∧ s.m ≤ a ∧ b < s.m ∧ (s.cat o).lf (x + s.m) = (a : Int) ∧ (s.cat o).rt y = (b : Int) ∧ okK ((s.cat o).key (x + s.m)) ∧ okK ((s.cat o).key y)) := by
  obtain ⟨-, hn, kids, L, hf, hr⟩ := h
  obtain ⟨-, kn, okids, oL, kf, kr⟩ := k
  have hF := hf.cat kf hm
  have r1 := hr.lo (o := o) hf
  have r2 := kr.hi (s := s) (fun y hy => kf.ltm y (kf.lth y hy).1) hm
  obtain ⟨e1, e2, e3⟩ := catS_same s least o ol
  have hcnt : n + on = ((List.range (s.catS least o ol).m).countP (s.catS least o ol).th : Int) := by
    rw [e1, e3]
    have := count_cat s.th o.th s.m o.m
    show n + on = ((List.range (s.m + o.m)).countP (fun z => if z < s.m then s.th z else o.th (z - s.m)) : Int)
    rw [this, hn, kn]
    omega
  rcases kr.spot with ⟨eo, eoL⟩ | ⟨x, u, eoL, eo, -⟩
  · refine ⟨⟨by rw [e1]; exact hm, hcnt, catK s kids okids, L ++ oL.map (· + s.m), ?_, ?_⟩, .inl eo⟩
    · unfold Hp.catS; rw [if_pos (.inl eo)]; exact hF
    · unfold Hp.catS Hp.catL; rw [if_pos (.inl eo), if_pos eo, eoL, List.map_nil, List.append_nil]; exact r1
  · have eo0 : ¬ ol = 0 := by omega
    rcases hr.spot with ⟨el, eL⟩ | ⟨y, t, eL, el, b0, hb0, hrt⟩
    · refine ⟨⟨by rw [e1]; exact hm, hcnt, catK s kids okids, L ++ oL.map (· + s.m), ?_, ?_⟩, .inr (.inl el)⟩
      · unfold Hp.catS; rw [if_pos (.inr el)]; exact hF
      · unfold Hp.catS Hp.catL
        rw [if_pos (.inr el), if_neg eo0, if_pos el, eL, List.nil_append]
        rw [if_neg eo0] at r2
        exact r2
    · have el0 : ¬ least = 0 := by omega
      have hx : o.th x = true := (kf.lth x (by rw [eoL]; simp)).1
      have hy : s.th y = true := (hf.lth y (by rw [eL]; simp)).1
      have hxm := kf.ltm x hx
      have hym := hf.ltm y hy
      have ex : (ol - 1).toNat = x := by omega
      have ey : (least - 1).toNat = y := by omega
      have rq := r2.rg
      rw [eoL] at rq
      have hleft := Ring.left (a := x + s.m) (t := u.map (· + s.m)) rq
      obtain ⟨a, ha⟩ : ∃ a : Nat, (s.cat o).lf (x + s.m) = (a : Int) := ⟨_, hleft⟩
      have rp := r1.rg
      rw [eL] at rp
      obtain ⟨b, hb⟩ : ∃ b : Nat, (s.cat o).rt y = (b : Int) := ⟨_, rp.right⟩
      obtain ⟨⟨m1, m2, m3, m4, m5, m6⟩, hF', R', hP, hR'⟩ := Rts.meld (x := x + s.m) (y := y) (a := a) (b := b) (u := u.map (· + s.m)) (t := t) hF r1 r2 (List.Perm.refl _) eL (by rw [eoL]; rfl) ha hb
      have eS : s.catS least o ol = (s.cat o).meldS (x + s.m) y a b := by
        unfold Hp.catS
        rw [if_neg (by omega), ex, ey, ha, hb, Int.toNat_natCast, Int.toNat_natCast]
      have eLL : s.catL least o ol = if (s.cat o).lt (x + s.m) y then ((x + s.m : Nat) : Int) + 1 else (y : Int) + 1 := by
        unfold Hp.catL
        rw [if_neg eo0, if_neg el0, ex, ey]
        split
        · omega
        · exact el
      have hmm : ∀ z ∈ L ++ oL.map (· + s.m), z < s.m + o.m := fun z hz => hF.ltm z (hF.lth z hz).1
      refine ⟨⟨by rw [e1]; exact hm, hcnt, catK s kids okids, R', ?_, ?_⟩, .inr (.inr ⟨x, y, a, b, eo, el, hxm, hym, hmm a m1, hmm b m2, ?_, hf.ltm b (hf.lth b m6).1, ha, hb, hF.okk _ (hF.lth _ m3).1, hF.okk _ (hF.lth _ m4).1⟩)⟩
      · rw [eS]; exact hF'.perm hP.symm
      · rw [eS, eLL]; exact hR'
      · obtain ⟨c, -, ec⟩ := List.mem_map.1 m5
        omega
end Go.Proofs.Ythdbiablpkeagaa
