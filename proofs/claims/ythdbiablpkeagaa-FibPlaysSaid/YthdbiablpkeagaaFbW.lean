/- Fibonacci heaps, plain: cut, and what Decrease and Delete make of it. No program is in sight. -/
import Derived.Test.YthdbiablpkeagaaFbD
namespace Go.Proofs.Ythdbiablpkeagaa
variable {s s' : Hp} {kids : Nat → List Nat} {L R : List Nat} {least : Int}
theorem Rts.root0 {x : Nat} (h : Rts s least R) (hok : ∀ z ∈ x :: R, okK (s.key z)) (hxR : x ∉ R) : ∃ R', R'.Perm (x :: R) ∧ Rts (s.rootS least x) (s.rootL least x) R' := by
  rcases h.spot with ⟨rfl, rfl⟩ | ⟨y, t, rfl, rfl, r, hr, hrt⟩
  · have e1 : s.rootS 0 x = { s with par := up s.par x (-1), mr := up s.mr x false, lf := up s.lf x (x : Int), rt := up s.rt x (x : Int) } := if_pos rfl
    have e2 : s.rootL 0 x = (x : Int) + 1 := if_pos rfl
    rw [e1, e2]
    refine ⟨[x], List.Perm.refl _, ⟨(Ring.one _ _ _).2 ⟨up_same _ _ _, up_same _ _ _⟩, by simp, fun r hr => ?_, rfl, fun r t e z hz => ?_⟩⟩
    · rw [List.mem_singleton] at hr
      subst hr
      exact ⟨up_same _ _ _, up_same _ _ _⟩
    · injection e with _ e
      subst e
      cases hz
  · have e0 : ¬ (y : Int) + 1 = 0 := by omega
    have e3 : ((y : Int) + 1 - 1).toNat = y := by omega
    have e4 : (y : Int) + 1 - 1 = (y : Int) := by omega
    have e1 : s.rootS ((y : Int) + 1) x = { s with par := up s.par x (-1), mr := up s.mr x false, lf := up (up s.lf x (y : Int)) r (x : Int), rt := up (up s.rt x (r : Int)) y (x : Int) } := by
      unfold Hp.rootS
      rw [if_neg e0, e3, e4, hrt, Int.toNat_natCast]
    have e2 : s.rootL ((y : Int) + 1) x = if s.lt x y then (x : Int) + 1 else (y : Int) + 1 := by
      unfold Hp.rootL
      rw [if_neg e0, e3]
    have hxy : x ≠ y := fun e => hxR (by simp [e])
    have hring := h.rg.join h.nd hxR hrt
    rw [e1, e2]
    have hrp : ∀ z ∈ x :: y :: t, up s.par x (-1) z = -1 ∧ up s.mr x false z = false := fun z hz => by
      by_cases e : z = x
      · subst e; exact ⟨up_same _ _ _, up_same _ _ _⟩
      · rw [up_ne _ _ e, up_ne _ _ e]
        exact h.rp z ((List.mem_cons.1 hz).resolve_left e)
    by_cases hl : s.lt x y
    · rw [if_pos hl]
      refine ⟨x :: t ++ [y], ?_, ⟨hring.turn, ?_, fun r hr => hrp r ?_, rfl, fun r t' e z hz => ?_⟩⟩
      · exact List.Perm.cons x (List.perm_append_singleton y t)
      · exact (List.Perm.nodup_iff (List.Perm.cons x (List.perm_append_singleton y t))).2 (List.nodup_cons.2 ⟨hxR, h.nd⟩)
      · exact (List.Perm.mem_iff (List.Perm.cons x (List.perm_append_singleton y t))).1 hr
      · injection e with e5 e6
        subst e5 e6
        rcases List.mem_append.1 hz with q | q
        · exact ltk_tr (hok x (by simp)) (hok y (by simp)) (hok z (by simp [q])) hl (h.mn y t rfl z q)
        · rw [List.mem_singleton] at q
          subst q
          exact hl
    · rw [if_neg hl]
      refine ⟨y :: x :: t, List.Perm.swap _ _ _, ⟨hring, ?_, fun r hr => hrp r ?_, rfl, fun r t' e z hz => ?_⟩⟩
      · exact (List.Perm.nodup_iff (List.Perm.swap x y t)).2 (List.nodup_cons.2 ⟨hxR, h.nd⟩)
      · exact (List.Perm.mem_iff (List.Perm.swap x y t)).1 hr
      · injection e with e5 e6
        subst e5 e6
        rcases List.mem_cons.1 hz with rfl | q
        · exact (ltk_tot hxy).resolve_left hl
        · exact h.mn y t rfl z q
theorem rootS_x (s : Hp) (least : Int) (x : Nat) : (s.rootS least x).par = up s.par x (-1) ∧ (s.rootS least x).mr = up s.mr x false := by
  unfold Hp.rootS
  split <;> exact ⟨rfl, rfl⟩
/-- Off the roots nothing is linked otherwise. -/
theorem Rts.off {x z : Nat} (h : Rts s least R) (hx : z ≠ x) (hz : z ∉ R) : (s.rootS least x).lf z = s.lf z ∧ (s.rootS least x).rt z = s.rt z := by
  rcases h.spot with ⟨rfl, rfl⟩ | ⟨y, t, rfl, rfl, r, hr, hrt⟩
  · have e1 : s.rootS 0 x = { s with par := up s.par x (-1), mr := up s.mr x false, lf := up s.lf x (x : Int), rt := up s.rt x (x : Int) } := if_pos rfl
    rw [e1]
    exact ⟨up_ne _ _ hx, up_ne _ _ hx⟩
  · have e0 : ¬ (y : Int) + 1 = 0 := by omega
    have e3 : ((y : Int) + 1 - 1).toNat = y := by omega
    have e4 : (y : Int) + 1 - 1 = (y : Int) := by omega
    have e1 : s.rootS ((y : Int) + 1) x = { s with par := up s.par x (-1), mr := up s.mr x false, lf := up (up s.lf x (y : Int)) r (x : Int), rt := up (up s.rt x (r : Int)) y (x : Int) } := by
      unfold Hp.rootS
      rw [if_neg e0, e3, e4, hrt, Int.toNat_natCast]
    rw [e1]
    have h2 : z ≠ y := fun e => hz (by simp [e])
    have h3 : z ≠ r := fun e => hz (by rw [e]; exact hr)
    constructor
    · show up (up s.lf x (y : Int)) r (x : Int) z = s.lf z
      rw [up_ne _ _ h3, up_ne _ _ hx]
    · show up (up s.rt x (r : Int)) y (x : Int) z = s.rt z
      rw [up_ne _ _ h2, up_ne _ _ hx]
/-- What leave makes of the entries; what a turn of cut does, ahead of root. -/
def Hp.leaveS (s : Hp) (x l r : Nat) : Hp := { s with lf := up (up s.lf r (l : Int)) x (x : Int), rt := up (up s.rt l (r : Int)) x (x : Int) }
def Hp.chP (s : Hp) (p x r : Nat) : Int := if r = x then -1 else if s.ch p = (x : Int) then (r : Int) else s.ch p
def Hp.cutA (s : Hp) (p x l r : Nat) : Hp := { (s.leaveS x l r) with ch := up s.ch p (s.chP p x r), dg := up s.dg p (s.dg p - 1) }
/-- The kids' ring without x. -/
theorem kids_leave {lf rt : Nat → Int} {K : List Nat} {x : Nat} (hr : Ring lf rt K) (hnd : K.Nodup) (hx : x ∈ K) : ∃ (l r : Nat) (kl : List Nat), lf x = (l : Int) ∧ rt x = (r : Int) ∧ l ∈ K ∧ r ∈ K ∧ (x :: kl).Perm K ∧
    Ring (up (up lf r (l : Int)) x (x : Int)) (up (up rt l (r : Int)) x (x : Int)) kl ∧ (if r = x then -1 else if hd K = (x : Int) then (r : Int) else hd K) = hd kl := by
  obtain ⟨u, t, rfl⟩ := List.append_of_mem hx
  have hp : (x :: (u ++ t)).Perm (u ++ x :: t) := List.perm_middle.symm
  have hr2 : Ring lf rt (x :: (t ++ u)) := by
    have := Ring.turns (u := u) (t := x :: t) hr
    simpa using this
  have hp2 : (x :: (t ++ u)).Perm (u ++ x :: t) := (List.Perm.cons x List.perm_append_comm).trans hp
  have hnd2 : (x :: (t ++ u)).Nodup := hp2.nodup_iff.2 hnd
  cases e : t ++ u with
  | nil =>
    obtain ⟨rfl, rfl⟩ := List.append_eq_nil_iff.1 e
    rw [e] at hr2
    have h1 := (Ring.one _ _ _).1 hr2
    exact ⟨x, x, [], h1.2, h1.1, by simp, by simp, hp, trivial, if_pos rfl⟩
  | cons b k =>
    rw [e] at hr2 hnd2 hp2
    obtain ⟨g, hl⟩ : ∃ g : Nat, lf x = (g : Int) := ⟨_, hr2.left⟩
    obtain ⟨h1, h2, h3⟩ := hr2.leave hnd2 hl
    have hxn := (List.nodup_cons.1 hnd2).1
    have hm : ∀ z, z ∈ b :: k → z ∈ u ++ x :: t := fun z hz => hp2.mem_iff.1 (List.mem_cons_of_mem _ hz)
    have hbx : b ≠ x := fun e => hxn (by simp [e])
    refine ⟨g, b, u ++ t, hl, h2, hm _ h3, hm b (by simp), hp, ?_, ?_⟩
    · have h4 := h1.congr (lf' := up (up lf b (g : Int)) x (x : Int)) (rt' := up (up rt g (b : Int)) x (x : Int)) fun z hz => by
        have : z ≠ x := fun e => hxn (by rw [← e]; exact hz)
        exact ⟨up_ne _ _ this, up_ne _ _ this⟩
      rw [← e] at h4
      exact h4.turns
    · rw [if_neg hbx]
      cases u with
      | nil =>
        have : t = b :: k := by simpa using e
        subst this
        simp [hd]
      | cons c u =>
        have hcx : c ≠ x := fun e => by
          rw [e] at hnd
          simp at hnd
        simp [hd]
        omega
/-- A turn of cut. -/
theorem Frst.turn {x : Nat} (h : Frst s kids (some x) L) (hR : Rts s least L) (hx : s.th x = true) (hp : s.par x ≠ -1) : ∃ p l r : Nat, (s.par x = (p : Int) ∧ s.lf x = (l : Int) ∧ s.rt x = (r : Int)) ∧ (x < s.m ∧ p < s.m ∧ l < s.m ∧ r < s.m ∧ p ≠ x) ∧ s.th p = true ∧ (0 ≤ s.dg p ∧ s.dg p ≤ (s.m : Int)) ∧
    (least = 0 ∨ ∃ y z : Nat, least = (y : Int) + 1 ∧ y < s.m ∧ z < s.m ∧ (s.cutA p x l r).rt y = (z : Int) ∧ x ≠ y ∧ x ≠ z ∧ okK (s.key y)) ∧
    ∃ kids' L', Frst ((s.cutA p x l r).rootS least x) kids' (some p) L' ∧ Rts ((s.cutA p x l r).rootS least x) ((s.cutA p x l r).rootL least x) L' ∧ (∀ q, s.th q = true → p ∈ kids' q → s.lt q p) ∧ x ∈ L' := by
  have hxL : x ∉ L := fun hm => hp (hR.rp x hm).1
  obtain ⟨p, tp, hxp⟩ := (h.cov x hx).resolve_left hxL
  obtain ⟨-, epx, hpx, -⟩ := h.kth p tp x hxp
  obtain ⟨l, r, kl, hl, hr, ml, mr, hkl, hring, hhd⟩ := kids_leave (h.krg p tp) (h.knd p tp) hxp
  have hkm : ∀ z ∈ kids p, z < s.m := fun z hz => h.ltm z (h.kth p tp z hz).1
  have hLm : ∀ z ∈ L, z < s.m := fun z hz => h.ltm z (h.lth z hz).1
  have hLk : ∀ z ∈ L, z ∉ kids p := fun z hz => (h.lth z hz).2 p tp
  have hlen : (kids p).length ≤ s.m := nodup_le s.m _ (h.knd p tp) hkm
  have hch : s.chP p x r = hd kl := by
    unfold Hp.chP
    rw [h.kch p tp]
    exact hhd
  have hLoff : ∀ z, z ∉ kids p → (s.cutA p x l r).lf z = s.lf z ∧ (s.cutA p x l r).rt z = s.rt z := fun z hz => by
    have n1 : z ≠ x := fun e => hz (by rw [e]; exact hxp)
    have n2 : z ≠ l := fun e => hz (by rw [e]; exact ml)
    have n3 : z ≠ r := fun e => hz (by rw [e]; exact mr)
    exact ⟨(up_ne _ _ n1).trans (up_ne _ _ n3), (up_ne _ _ n1).trans (up_ne _ _ n2)⟩
  have hR1 : Rts (s.cutA p x l r) least L := ⟨hR.rg.congr fun y hy => ⟨(hLoff y (hLk y hy)).2, (hLoff y (hLk y hy)).1⟩, hR.nd, hR.rp, hR.le, hR.mn⟩
  obtain ⟨R', pR, hR'⟩ := hR1.root0 (x := x) (fun z hz => by
    rcases List.mem_cons.1 hz with rfl | q
    · exact h.okk z hx
    · exact h.okk z (h.lth z q).1) hxL
  obtain ⟨e1, e2, e3, e4, e5⟩ := Hp.rootS_same (s.cutA p x l r) least x
  obtain ⟨e6, e7⟩ := rootS_x (s.cutA p x l r) least x
  have hxk : x ∉ kl := (List.nodup_cons.1 (hkl.nodup_iff.2 (h.knd p tp))).1
  have hF := h.cut (s' := (s.cutA p x l r).rootS least x) tp hxp e1 e2 e3 (fun z hz => by rw [e7]; exact up_ne _ _ hz) (fun z hz => by rw [e6]; exact up_ne _ _ hz) (fun z hz => by rw [e4]; exact up_ne _ _ hz) e5
    (fun z hz hzL => by
      have n1 : z ≠ x := fun e => hz (by rw [e]; exact hxp)
      obtain ⟨f1, f2⟩ := hR1.off (x := x) n1 hzL
      rw [f1, f2]
      exact hLoff z hz) hkl
    (hring.congr fun z hz => by
      have n1 : z ≠ x := fun e => hxk (by rw [← e]; exact hz)
      have n2 : z ∉ L := fun q => hLk z q (hkl.mem_iff.1 (List.mem_cons_of_mem _ hz))
      obtain ⟨f1, f2⟩ := hR1.off (x := x) n1 n2
      exact ⟨f2, f1⟩)
    (by rw [e4]; exact (up_same _ _ _).trans hch)
  refine ⟨p, l, r, ⟨epx, hl, hr⟩, ⟨h.ltm x hx, h.ltm p tp, hkm l ml, hkm r mr, hpx⟩, tp, by rw [h.kdg p tp]; omega, ?_, _, R', hF.perm pR.symm, hR', fun q tq hq => ?_, pR.mem_iff.2 (by simp)⟩
  · rcases hR.spot with ⟨rfl, -⟩ | ⟨y, t, rfl, rfl, z, hz, hrt⟩
    · exact .inl rfl
    · have yL : y ∈ y :: t := by simp
      refine .inr ⟨y, z, rfl, hLm y yL, hLm z hz, ?_, fun e => hxL (by rw [e]; exact yL), fun e => hxL (by rw [e]; exact hz), h.okk y (h.lth y yL).1⟩
      rw [(hLoff y (hLk y yL)).2]
      exact hrt
  · have hq' : p ∈ kids q := by
      by_cases e : q = p
      · subst e
        rw [up_same] at hq
        exact hkl.mem_iff.1 (List.mem_cons_of_mem _ hq)
      · rw [up_ne _ _ e] at hq; exact hq
    exact (h.kth q tq p hq').2.2.2.resolve_left (fun e => hpx (by injection e with e; exact e.symm))
/-- Roots are tops, and no others. -/
theorem Frst.top_iff {e : Option Nat} (h : Frst s kids e L) (hR : Rts s least L) {x : Nat} (hx : s.th x = true) : x ∈ L ↔ s.par x = -1 := by
  refine ⟨fun hm => (hR.rp x hm).1, fun hp => (h.cov x hx).resolve_right ?_⟩
  rintro ⟨p, tp, hm⟩
  have := (h.kth p tp x hm).2.1
  omega
/-- cut's end: the mark pays, or there is nothing above. -/
def Hp.markP (s : Hp) (p : Nat) : Hp := { s with mr := up s.mr p (decide (s.par p ≠ -1)) }
theorem Frst.paid {p : Nat} (h : Frst s kids (some p) L) (hR : Rts s least L) (hp : s.th p = true) (hm : s.mr p = false) (hlt : ∀ q, s.th q = true → p ∈ kids q → s.lt q p) : Frst (s.markP p) kids none L ∧ Rts (s.markP p) least L := by
  have ht := h.top_iff hR hp
  refine ⟨?_, hR.rg, hR.nd, fun r hr => ⟨(hR.rp r hr).1, ?_⟩, hR.le, hR.mn⟩
  · by_cases e : s.par p = -1
    · have : s.markP p = s := by
        unfold Hp.markP
        have : up s.mr p (decide (s.par p ≠ -1)) = s.mr := by
          funext j
          by_cases q : j = p
          · subst q; rw [up_same, hm]; simp [e]
          · exact up_ne _ _ q
        rw [this]
      rw [this]
      exact h.settle (ht.2 e)
    · refine h.mark hm rfl rfl rfl ?_ rfl rfl rfl rfl rfl hlt
      show up s.mr p (decide (s.par p ≠ -1)) = _
      rw [decide_eq_true e]
  · show up s.mr p (decide (s.par p ≠ -1)) r = false
    by_cases q : r = p
    · subst q; rw [up_same]; simp [(hR.rp r hr).1]
    · rw [up_ne _ _ q]; exact (hR.rp r hr).2
/-- How many are under another one. -/
def ur (s : Hp) : Nat := (List.range s.m).countP (fun z => decide (s.par z ≠ -1))
theorem ur_lt {x : Nat} (hx : x < s.m) (hp : s.par x ≠ -1) (em : s'.m = s.m) (ep : s'.par = up s.par x (-1)) : ur s' < ur s := by
  unfold ur
  rw [em]
  refine countP_lt (a := x) (by simp; exact hx) (fun y _ hy => ?_) (by simpa using hp) (by rw [ep, up_same]; simp)
  simp only [decide_eq_true_eq, ep] at *
  by_cases e : y = x
  · subst e; exact hp
  · rw [up_ne _ _ e] at hy; exact hy
/-- A key that is less: x's order is in suspense. -/
def Hp.setK (s : Hp) (x : Nat) (k : K3) : Hp := { s with key := up s.key x k }
theorem Frst.setK {x : Nat} {k : K3} (h : Frst s kids none L) (hx : s.th x = true) (hk : okK k) (hle : ∀ c, okK (s.key c) → Ltk (s.key x) x (s.key c) c → Ltk k x (s.key c) c) : Frst (s.setK x k) kids (some x) L := by
  have h2 := h.except (some x)
  have kn : ∀ z, z ≠ x → (s.setK x k).key z = s.key z := fun z hz => up_ne _ _ hz
  have kx : (s.setK x k).key x = k := up_same _ _ _
  refine ⟨h.ltm, fun z hz => ?_, fun z hz c hc => ?_, h.knd, h.krg, h.kch, h.kdg, h2.kbn, h.lnd, h.lth, h.cov⟩
  · by_cases e : z = x
    · subst e; rw [kx]; exact hk
    · rw [kn z e]; exact h.okk z hz
  · obtain ⟨h1, h2, h3, h4⟩ := h.kth z hz c hc
    refine ⟨h1, h2, h3, ?_⟩
    by_cases e : c = x
    · exact .inl (by rw [e])
    · right
      have h5 := h4.resolve_left (by simp)
      unfold Hp.lt at *
      rw [kn c e]
      by_cases q : z = x
      · subst q; rw [kx]; exact hle c (h.okk c h1) h5
      · rw [kn z q]; exact h5
theorem Frst.order {x : Nat} (h : Frst s kids (some x) L) (ho : ∀ p, s.th p = true → x ∈ kids p → s.lt p x) (h0 : Frst s' kids none L) (e1 : s'.mr = s.mr) (e2 : s'.th = s.th) : Frst s kids none L :=
  { h with
    kth := fun y hy c hc => by
      obtain ⟨h1, h2, h3, h4⟩ := h.kth y hy c hc
      refine ⟨h1, h2, h3, .inr ?_⟩
      rcases h4 with q | q
      · injection q with q; subst q; exact ho y hy hc
      · exact q
    kbn := fun y hy t => by
      have := h0.kbn y (by rw [e2]; exact hy) t
      unfold vl at *
      rw [e1] at this
      exact this }
/-- The roots, where x's key has become less: the first is the least one of all but x. -/
theorem Rts.setK {x : Nat} {k : K3} (h : Rts s least R) (hx : x ∉ R) : Rts (s.setK x k) least R := by
  have kn : ∀ z, z ≠ x → (s.setK x k).key z = s.key z := fun z hz => up_ne _ _ hz
  refine ⟨h.rg, h.nd, h.rp, h.le, fun r t e z hz => ?_⟩
  have := h.mn r t e z hz
  subst e
  unfold Hp.lt at *
  rw [kn r (fun e => hx (by simp [e])), kn z (fun e => hx (by rw [← e]; exact List.mem_cons_of_mem _ hz))]
  exact this
/-- A root x with a key that is less; y: the least one until now. -/
theorem Rts.setKR {x : Nat} {k : K3} (h : Rts s least R) (hx : x ∈ R) (hok : ∀ z ∈ R, okK (s.key z)) (hk : okK k) (hle : ∀ c, okK (s.key c) → Ltk (s.key x) x (s.key c) c → Ltk k x (s.key c) c) : ∃ y : Nat, y ∈ R ∧ least = (y : Int) + 1 ∧
    ∃ R', R'.Perm R ∧ Rts (s.setK x k) (if (s.setK x k).lt x y then (x : Int) + 1 else least) R' := by
  have kn : ∀ z, z ≠ x → (s.setK x k).key z = s.key z := fun z hz => up_ne _ _ hz
  have kx : (s.setK x k).key x = k := up_same _ _ _
  cases R with
  | nil => cases hx
  | cons y t =>
    refine ⟨y, by simp, h.le, ?_⟩
    by_cases hl : (s.setK x k).lt x y
    · rw [if_pos hl]
      have hxy : x ≠ y := fun e => by rw [e] at hl; exact ltk_irr _ _ hl
      obtain ⟨u, v, e⟩ := List.append_of_mem hx
      have hperm : (x :: (v ++ u)).Perm (y :: t) := by rw [e]; exact (List.Perm.cons x List.perm_append_comm).trans List.perm_middle.symm
      refine ⟨x :: (v ++ u), hperm, ?_, hperm.nodup_iff.2 h.nd, fun r hr => h.rp r (hperm.mem_iff.1 hr), rfl, fun r t' e' z hz => ?_⟩
      · have := h.rg
        rw [e] at this
        have := Ring.turns (u := u) (t := x :: v) this
        exact this
      · injection e' with e1 e2
        subst e1 e2
        have hzx : z ≠ x := fun q => by
          have := hperm.nodup_iff.2 h.nd
          rw [q] at hz
          exact (List.nodup_cons.1 this).1 hz
        have hzm : z ∈ y :: t := hperm.mem_iff.1 (List.mem_cons_of_mem _ hz)
        by_cases q : z = y
        · subst q; exact hl
        · have h1 := h.mn y t rfl z ((List.mem_cons.1 hzm).resolve_left q)
          unfold Hp.lt at *
          rw [kx, kn y (Ne.symm hxy)] at hl
          rw [kx, kn z hzx]
          exact ltk_tr hk (hok y (by simp)) (hok z hzm) hl h1
    · rw [if_neg hl]
      refine ⟨y :: t, List.Perm.refl _, h.rg, h.nd, h.rp, h.le, fun r t' e' z hz => ?_⟩
      injection e' with e1 e2
      subst e1 e2
      have hzy : z ≠ y := fun q => by rw [q] at hz; exact (List.nodup_cons.1 h.nd).1 hz
      by_cases q : z = x
      · subst q
        exact (ltk_tot (Ne.symm hzy)).resolve_right hl
      · have h1 := h.mn y t rfl z hz
        unfold Hp.lt at *
        by_cases q2 : y = x
        · subst q2
          rw [kx, kn z q]
          exact hle z (hok z (List.mem_cons_of_mem _ hz)) h1
        · rw [kn y q2, kn z q]; exact h1
/-- Is key k not ahead of key l? -/
def gtK (k l : K3) : Prop := k.1 * l.2.1 > l.1 * k.2.1 ∨ (k.1 * l.2.1 = l.1 * k.2.1 ∧ k.2.2 > l.2.2)
theorem leK {k o : K3} {x : Nat} (hk : okK k) (ho : okK o) (h : ¬ gtK k o) (l : K3) (c : Nat) (hl : okK l) (hlt : Ltk o x l c) : Ltk k x l c := by
  unfold Ltk gtK at *
  have f1 := @fr_trans k.1 k.2.1 o.1 o.2.1 l.1 l.2.1 hk.2 ho.2 hl.2
  have f2 := @fr_trans l.1 l.2.1 o.1 o.2.1 k.1 k.2.1 hl.2 ho.2 hk.2
  have f3 := @fr_trans o.1 o.2.1 l.1 l.2.1 k.1 k.2.1 ho.2 hl.2 hk.2
  have f4 := @fr_trans l.1 l.2.1 k.1 k.2.1 o.1 o.2.1 hl.2 hk.2 ho.2
  have f5 := @fr_trans k.1 k.2.1 l.1 l.2.1 o.1 o.2.1 hk.2 hl.2 ho.2
  omega
/-- Decrease, plain: what stands behind it, whichever road it took. -/
theorem Good.least_of {n : Int} (h : Good s least n) {x : Nat} (hx : s.th x = true) : ∃ y : Nat, least = (y : Int) + 1 ∧ y < s.m ∧ s.th y = true ∧ ¬ s.lt x y := by
  rcases h.min with ⟨-, -, h3⟩ | ⟨y, h1, h2, h3, -, h5⟩
  · rw [h3] at hx; cases hx
  · refine ⟨y, h1, h2, h3, fun hl => ?_⟩
    rcases h5 x hx with rfl | q
    · exact ltk_irr _ _ hl
    · exact ltk_asy q hl
/-- x, whose key is less, was a top: what is to be made of the least. -/
theorem Good.decTop {n : Int} {x : Nat} {k : K3} (h : Good s least n) (hx : s.th x = true) (hp : s.par x = -1) (hk : okK k) (hle : ¬ gtK k (s.key x)) : ∃ y : Nat, y < s.m ∧ okK ((s.setK x k).key y) ∧ least = (y : Int) + 1 ∧ Good (s.setK x k) (if (s.setK x k).lt x y then (x : Int) + 1 else least) n := by
  obtain ⟨h0, h1, kids, L, hf, hr⟩ := h
  have hxL := (hf.top_iff hr hx).2 hp
  have hl := fun c hc => leK (x := x) hk (hf.okk x hx) hle (s.key c) c hc
  obtain ⟨y, hy, e, R', p, hR⟩ := hr.setKR hxL (fun z hz => hf.okk z (hf.lth z hz).1) hk hl
  have hF := (hf.setK hx hk hl).settle hxL
  exact ⟨y, hf.ltm y (hf.lth y hy).1, hF.okk y (hf.lth y hy).1, e, h0, h1, kids, R', hF.perm p.symm, hR⟩
/-- x was a child: the order of its key in suspense; where it is not ahead of its parent, nothing is. -/
theorem Good.decKid {n : Int} {x : Nat} {k : K3} (h : Good s least n) (hx : s.th x = true) (hp : s.par x ≠ -1) (hk : okK k) (hle : ¬ gtK k (s.key x)) : ∃ p : Nat, s.par x = (p : Int) ∧ p < s.m ∧ okK ((s.setK x k).key p) ∧
    (∃ kids L, Frst (s.setK x k) kids (some x) L ∧ Rts (s.setK x k) least L) ∧ (¬ (s.setK x k).lt x p → Good (s.setK x k) least n) := by
  obtain ⟨h0, h1, kids, L, hf, hr⟩ := h
  have hxL : x ∉ L := fun hm => hp ((hf.top_iff hr hx).1 hm)
  have hl := fun c hc => leK (x := x) hk (hf.okk x hx) hle (s.key c) c hc
  have hF := hf.setK hx hk hl
  have hR := hr.setK (k := k) hxL
  obtain ⟨p, tp, hm⟩ := (hf.cov x hx).resolve_left hxL
  obtain ⟨-, e2, e3, -⟩ := hf.kth p tp x hm
  refine ⟨p, e2, hf.ltm p tp, hF.okk p tp, ⟨kids, L, hF, hR⟩, fun hn => ⟨h0, h1, kids, L, hF.order (fun q tq hq => ?_) hf rfl rfl, hR⟩⟩
  have : q = p := hf.one_parent tq tp hq hm
  subst this
  exact (ltk_tot e3).resolve_right hn
end Go.Proofs.Ythdbiablpkeagaa
