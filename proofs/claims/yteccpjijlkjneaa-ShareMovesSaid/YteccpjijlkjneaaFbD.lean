/- Fibonacci heaps, plain: root, under, gathered's loops, Insert, Pop. No program is in sight. -/
import Derived.Test.YteccpjijlkjneaaFbC
namespace Go.Proofs.Yteccpjijlkjneaa
instance (s : Hp) (a b : Nat) : Decidable (s.lt a b) := by unfold Hp.lt; infer_instance
def hd1 : List Nat → Int
  | [] => 0
  | a :: _ => (a : Int) + 1
/-- The roots' ring, the least one first. -/
structure Rts (s : Hp) (least : Int) (R : List Nat) : Prop where
  rg : Ring s.lf s.rt R
  nd : R.Nodup
  rp : ∀ r ∈ R, s.par r = -1 ∧ s.mr r = false
  le : least = hd1 R
  mn : ∀ r t, R = r :: t → ∀ z ∈ t, s.lt r z
/-- What root makes of the entries, and of the least. -/
def Hp.rootS (s : Hp) (least : Int) (x : Nat) : Hp :=
  if least = 0 then { s with par := up s.par x (-1), mr := up s.mr x false, lf := up s.lf x (x : Int), rt := up s.rt x (x : Int) }
  else { s with par := up s.par x (-1), mr := up s.mr x false, lf := up (up s.lf x (least - 1)) (s.rt (least - 1).toNat).toNat (x : Int), rt := up (up s.rt x (s.rt (least - 1).toNat)) (least - 1).toNat (x : Int) }
def Hp.rootL (s : Hp) (least : Int) (x : Nat) : Int := if least = 0 then (x : Int) + 1 else if s.lt x (least - 1).toNat then (x : Int) + 1 else least
theorem Hp.rootS_same (s : Hp) (least : Int) (x : Nat) : (s.rootS least x).m = s.m ∧ (s.rootS least x).key = s.key ∧ (s.rootS least x).th = s.th ∧ (s.rootS least x).ch = s.ch ∧ (s.rootS least x).dg = s.dg := by
  unfold Hp.rootS
  split <;> exact ⟨rfl, rfl, rfl, rfl, rfl⟩
theorem Hp.lt_key {s s' : Hp} (h : s'.key = s.key) (a b : Nat) : s'.lt a b = s.lt a b := by unfold Hp.lt; rw [h]
variable {s s' : Hp} {kids : Nat → List Nat} {L R : List Nat} {least : Int}
/-- Where the least stands, and what is right of it. -/
theorem Rts.spot (h : Rts s least R) : (least = 0 ∧ R = []) ∨ ∃ y t, R = y :: t ∧ least = (y : Int) + 1 ∧ ∃ r, r ∈ y :: t ∧ s.rt y = (r : Int) := by
  cases R with
  | nil => exact .inl ⟨h.le, rfl⟩
  | cons y t =>
    refine .inr ⟨y, t, rfl, h.le, _, ?_, h.rg.right⟩
    have h2 : (t ++ [y]).head (by simp) ∈ t ++ [y] := List.head_mem _
    simp only [List.mem_append, List.mem_singleton] at h2
    simp only [List.mem_cons]
    exact h2.symm
theorem Rts.root {x : Nat} (h : Rts s least R) (hf : Frst s kids none L) (hsub : ∀ z ∈ R, z ∈ L) (hx : x ∈ L) (hxR : x ∉ R) :
    (∃ R', R'.Perm (x :: R) ∧ Rts (s.rootS least x) (s.rootL least x) R') ∧ Frst (s.rootS least x) kids none L := by
  rcases h.spot with ⟨rfl, rfl⟩ | ⟨y, t, rfl, rfl, r, hr, hrt⟩
  · have e1 : s.rootS 0 x = { s with par := up s.par x (-1), mr := up s.mr x false, lf := up s.lf x (x : Int), rt := up s.rt x (x : Int) } := if_pos rfl
    have e2 : s.rootL 0 x = (x : Int) + 1 := if_pos rfl
    rw [e1, e2]
    refine ⟨⟨[x], List.Perm.refl _, ⟨(Ring.one _ _ _).2 ⟨up_same _ _ _, up_same _ _ _⟩, by simp, fun r hr => ?_, rfl, fun r t e z hz => ?_⟩⟩, hf.tops rfl rfl rfl (fun _ _ => rfl) (fun _ _ => rfl) fun z hz _ => ?_⟩
    · rw [List.mem_singleton] at hr
      subst hr
      exact ⟨up_same _ _ _, up_same _ _ _⟩
    · injection e with _ e
      subst e
      cases hz
    · have : z ≠ x := fun e => hz (by rw [e]; exact hx)
      exact ⟨up_ne _ _ this, up_ne _ _ this, up_ne _ _ this, up_ne _ _ this⟩
  · have e0 : ¬ (y : Int) + 1 = 0 := by omega
    have e3 : ((y : Int) + 1 - 1).toNat = y := by omega
    have e4 : (y : Int) + 1 - 1 = (y : Int) := by omega
    have e1 : s.rootS ((y : Int) + 1) x = { s with par := up s.par x (-1), mr := up s.mr x false, lf := up (up s.lf x (y : Int)) r (x : Int), rt := up (up s.rt x (r : Int)) y (x : Int) } := by
      unfold Hp.rootS
      rw [if_neg e0, e3, e4, hrt, Int.toNat_natCast]
    have e2 : s.rootL ((y : Int) + 1) x = if s.lt x y then (x : Int) + 1 else (y : Int) + 1 := by
      unfold Hp.rootL
      rw [if_neg e0, e3]
    have hxy : x ≠ y := fun e => hxR (by simp [e])
    have hring := h.rg.join h.nd hxR hrt
    have hokx := hf.okk x (hf.lth x hx).1
    have hoky := hf.okk y (hf.lth y (hsub y (by simp))).1
    rw [e1, e2]
    have hrp : ∀ z ∈ x :: y :: t, up s.par x (-1) z = -1 ∧ up s.mr x false z = false := fun z hz => by
      by_cases e : z = x
      · subst e; exact ⟨up_same _ _ _, up_same _ _ _⟩
      · rw [up_ne _ _ e, up_ne _ _ e]
        exact h.rp z ((List.mem_cons.1 hz).resolve_left e)
    refine ⟨?_, hf.tops rfl rfl rfl (fun _ _ => rfl) (fun _ _ => rfl) fun z hz _ => ?_⟩
    · by_cases hl : s.lt x y
      · rw [if_pos hl]
        refine ⟨x :: t ++ [y], ?_, ⟨hring.turn, ?_, fun r hr => hrp r ?_, rfl, fun r t' e z hz => ?_⟩⟩
        · exact List.Perm.cons x (List.perm_append_singleton y t)
        · exact (List.Perm.nodup_iff (List.Perm.cons x (List.perm_append_singleton y t))).2 (List.nodup_cons.2 ⟨hxR, h.nd⟩)
        · exact (List.Perm.mem_iff (List.Perm.cons x (List.perm_append_singleton y t))).1 hr
        · injection e with e5 e6
          subst e5 e6
          rcases List.mem_append.1 hz with q | q
          · exact ltk_tr hokx hoky (hf.okk z (hf.lth z (hsub z (List.mem_cons_of_mem _ q))).1) hl (h.mn y t rfl z q)
          · rw [List.mem_singleton] at q
            subst q
            exact hl
      · rw [if_neg hl]
        refine ⟨y :: x :: t, List.Perm.swap _ _ _, ⟨hring, ?_, fun r hr => hrp r ?_, rfl, fun r t' e z hz => ?_⟩⟩
        · exact (List.Perm.nodup_iff (List.Perm.swap x y t)).2 (List.nodup_cons.2 ⟨hxR, h.nd⟩)
        · exact (List.Perm.mem_iff (List.Perm.swap x y t)).1 hr
        · injection e with e5 e6
          subst e5 e6
          rcases List.mem_cons.1 hz with rfl | q
          · exact (ltk_tot hxy).resolve_left hl
          · exact h.mn y t rfl z q
    · have h1 : z ≠ x := fun e => hz (by rw [e]; exact hx)
      have h2 : z ≠ y := fun e => hz (by rw [e]; exact hsub y (by simp))
      have h3 : z ≠ r := fun e => hz (by rw [e]; exact hsub r hr)
      refine ⟨up_ne _ _ h1, ?_, ?_, up_ne _ _ h1⟩
      · show up (up s.lf x (y : Int)) r (x : Int) z = s.lf z
        rw [up_ne _ _ h3, up_ne _ _ h1]
      · show up (up s.rt x (r : Int)) y (x : Int) z = s.rt z
        rw [up_ne _ _ h2, up_ne _ _ h1]
/-- What under makes of the entries: y goes under x. -/
def Hp.underS (s : Hp) (y x : Nat) : Hp :=
  if s.ch x = -1 then { s with par := up s.par y (x : Int), lf := up s.lf y (y : Int), rt := up s.rt y (y : Int), ch := up s.ch x (y : Int), dg := up s.dg x (s.dg x + 1) }
  else { s with par := up s.par y (x : Int), lf := up (up (up s.lf y (y : Int)) y (s.ch x)) (s.rt (s.ch x).toNat).toNat (y : Int), rt := up (up (up s.rt y (y : Int)) y (s.rt (s.ch x).toNat)) (s.ch x).toNat (y : Int), dg := up s.dg x (s.dg x + 1) }
theorem Hp.underS_same (s : Hp) (y x : Nat) : (s.underS y x).m = s.m ∧ (s.underS y x).key = s.key ∧ (s.underS y x).th = s.th ∧ (s.underS y x).mr = s.mr ∧ (s.underS y x).dg = up s.dg x (s.dg x + 1) ∧ (s.underS y x).par = up s.par y (x : Int) := by
  unfold Hp.underS
  split <;> exact ⟨rfl, rfl, rfl, rfl, rfl, rfl⟩
/-- Where the first child stands, and what is right of it. -/
theorem Frst.child {x : Nat} (h : Frst s kids none L) (hx : s.th x = true) : (s.ch x = -1 ∧ kids x = []) ∨ ∃ c t, kids x = c :: t ∧ s.ch x = (c : Int) ∧ c < s.m ∧ ∃ r, r ∈ c :: t ∧ r < s.m ∧ s.rt c = (r : Int) := by
  have hc := h.kch x hx
  have hr := h.krg x hx
  cases hk : kids x with
  | nil => rw [hk] at hc; exact .inl ⟨hc, rfl⟩
  | cons c t =>
    rw [hk] at hc hr
    have hm : ∀ z ∈ c :: t, z < s.m := fun z hz => h.ltm z (h.ord hx (by rw [hk]; exact hz)).1
    have h2 : (t ++ [c]).head (by simp) ∈ t ++ [c] := List.head_mem _
    have h3 : (t ++ [c]).head (by simp) ∈ c :: t := by
      simp only [List.mem_append, List.mem_singleton] at h2
      simp only [List.mem_cons]
      exact h2.symm
    exact .inr ⟨c, t, rfl, hc, hm c (by simp), _, h3, hm _ h3, hr.right⟩
theorem Frst.underS {x y : Nat} (h : Frst s kids none L) (hx : x ∈ L) (hy : y ∈ L) (hlt : s.lt x y) (hdg : (kids x).length ≤ (kids y).length) :
    ∃ kl, Frst (s.underS y x) (up kids x kl) none (L.erase y) ∧ kl.length = (kids x).length + 1 := by
  have tx := (h.lth x hx).1
  have hyk := (h.lth y hy).2 x tx
  rcases h.child tx with ⟨e1, e2⟩ | ⟨c, t, e1, e2, -, r, hr, -, hrt⟩
  · refine ⟨[y], ?_, by rw [e2]; rfl⟩
    have e : s.underS y x = { s with par := up s.par y (x : Int), lf := up s.lf y (y : Int), rt := up s.rt y (y : Int), ch := up s.ch x (y : Int), dg := up s.dg x (s.dg x + 1) } := if_pos e1
    rw [e]
    refine h.under hx hy hlt hdg rfl rfl rfl rfl rfl (fun z hz => up_ne _ _ hz) rfl (fun z hz => ?_) (by rw [e2]) ((Ring.one _ _ _).2 ⟨up_same _ _ _, up_same _ _ _⟩) (up_same _ _ _)
    have : z ≠ y := fun e => hz (by simp [e])
    exact ⟨up_ne _ _ this, up_ne _ _ this⟩
  · refine ⟨c :: y :: t, ?_, by rw [e1]; rfl⟩
    have e : s.underS y x = { s with par := up s.par y (x : Int), lf := up (up (up s.lf y (y : Int)) y (c : Int)) r (y : Int), rt := up (up (up s.rt y (y : Int)) y (r : Int)) c (y : Int), dg := up s.dg x (s.dg x + 1) } := by
      unfold Hp.underS
      rw [if_neg (by rw [e2]; omega), e2, Int.toNat_natCast, hrt, Int.toNat_natCast]
    have hyc : y ∉ c :: t := by rw [← e1]; exact hyk
    have hcy : c ≠ y := fun e => hyc (by simp [e])
    have hry : r ≠ y := fun e => hyc (by rw [← e]; exact hr)
    have hk := h.krg x tx
    rw [e1] at hk
    have hnd := h.knd x tx
    rw [e1] at hnd
    have hk2 : Ring (up s.lf y (y : Int)) (up s.rt y (y : Int)) (c :: t) := hk.congr fun z hz => by
      have : z ≠ y := fun e => hyc (by rw [← e]; exact hz)
      exact ⟨up_ne _ _ this, up_ne _ _ this⟩
    have hj := hk2.join hnd hyc (r := r) (by rw [up_ne _ _ hcy]; exact hrt)
    rw [e]
    refine h.under hx hy hlt hdg rfl rfl rfl rfl rfl (fun z hz => rfl) rfl (fun z hz => ?_) (by rw [e1]; exact List.Perm.swap _ _ _) hj e2
    rw [e1] at hz
    have h1 : z ≠ y := fun e => hz (by simp [e])
    have h2 : z ≠ c := fun e => hz (by simp [e])
    have h3 : z ≠ r := fun e => hz (List.mem_cons_of_mem _ (by rw [e]; exact hr))
    constructor
    · show up (up (up s.lf y (y : Int)) y (c : Int)) r (y : Int) z = s.lf z
      rw [up_ne _ _ h3, up_ne _ _ h1, up_ne _ _ h1]
    · show up (up (up s.rt y (y : Int)) y (r : Int)) c (y : Int) z = s.rt z
      rw [up_ne _ _ h2, up_ne _ _ h1, up_ne _ _ h1]
/-- gathered, within: A: the tops that 'b' doesn't name; b: a top of each degree, and 1. -/
structure Gt (s : Hp) (kids : Nat → List Nat) (L : List Nat) (b : Nat → Int) (A : List Nat) : Prop where
  fr : Frst s kids none L
  an : A.Nodup
  sub : ∀ z ∈ A, z ∈ L
  b1 : ∀ d, d < 64 → b d ≠ 0 → ∃ z : Nat, b d = (z : Int) + 1 ∧ z ∈ L ∧ z ∉ A ∧ (kids z).length = d
  b2 : ∀ z ∈ L, z ∈ A ∨ b (kids z).length = (z : Int) + 1
theorem Gt.start (h : Frst s kids none L) : Gt s kids L (fun _ => 0) L := ⟨h, h.lnd, fun _ h => h, fun _ _ hd => absurd rfl hd, fun _ h => .inl h⟩
variable {b : Nat → Int} {A : List Nat}
/-- The top that comes next is made a bare one. -/
theorem Gt.bare {x : Nat} (h : Gt s kids L b (x :: A)) : Gt { s with par := up s.par x (-1), mr := up s.mr x false } kids L b (x :: A) := by
  have hf : Frst { s with par := up s.par x (-1), mr := up s.mr x false } kids none L := h.fr.tops rfl rfl rfl (fun _ _ => rfl) (fun _ _ => rfl) fun z hz _ => by
    have : z ≠ x := fun e => hz (by rw [e]; exact h.sub x (by simp))
    exact ⟨up_ne _ _ this, rfl, rfl, up_ne _ _ this⟩
  exact ⟨hf, h.an, h.sub, h.b1, h.b2⟩
theorem Gt.deg {x : Nat} (h : Gt s kids L b (x :: A)) (hm : s.m ≤ 1048576) : s.th x = true ∧ x < s.m ∧ s.dg x = ((kids x).length : Int) ∧ (kids x).length < 31 := by
  have tx := (h.fr.lth x (h.sub x (by simp))).1
  exact ⟨tx, h.fr.ltm x tx, h.fr.kdg x tx, h.fr.deg hm tx⟩
/-- There is another one of its degree: the lesser one takes the other. -/
theorem Gt.clash {x y : Nat} (h : Gt s kids L b (x :: A)) (hm : s.m ≤ 1048576) (hb : b (kids x).length = (y : Int) + 1) :
    (s.th y = true ∧ y < s.m ∧ x ≠ y) ∧ ∀ p q : Nat, ((s.lt y x ∧ p = y ∧ q = x) ∨ (¬ s.lt y x ∧ p = x ∧ q = y)) → ∃ kids', Gt (s.underS q p) kids' (L.erase q) (up b (kids x).length 0) (p :: A) ∧ (kids' p).length = (kids x).length + 1 := by
  have hxL := h.sub x (by simp)
  have hd := (h.deg hm).2.2.2
  obtain ⟨z, e, hyL, hyA, hyl⟩ := h.b1 (kids x).length (by omega) (by omega)
  have : z = y := by omega
  subst this
  have hxz : x ≠ z := fun e => hyA (by simp [e])
  have hzA : z ∉ A := fun hz => hyA (List.mem_cons_of_mem _ hz)
  have hxA : x ∉ A := (List.nodup_cons.1 h.an).1
  refine ⟨⟨(h.fr.lth z hyL).1, h.fr.ltm z (h.fr.lth z hyL).1, hxz⟩, fun p q hpq => ?_⟩
  have hpq2 : p ∈ L ∧ q ∈ L ∧ s.lt p q ∧ p ≠ q ∧ (kids p).length = (kids x).length ∧ (kids q).length = (kids x).length ∧ p ∉ A ∧ q ∉ A ∧ (∀ z', z' = x ∨ z' = z ↔ z' = p ∨ z' = q) := by
    rcases hpq with ⟨h1, rfl, rfl⟩ | ⟨h1, rfl, rfl⟩
    · exact ⟨hyL, hxL, h1, Ne.symm hxz, hyl, rfl, hzA, hxA, fun z' => or_comm⟩
    · exact ⟨hxL, hyL, (ltk_tot hxz).resolve_right h1, hxz, rfl, hyl, hxA, hzA, fun z' => Iff.rfl⟩
  obtain ⟨pL, qL, hl, hne, lp, lq, pA, qA, hor⟩ := hpq2
  obtain ⟨kl, hf, hkl⟩ := h.fr.underS pL qL hl (by omega)
  have up1 : up kids p kl p = kl := up_same _ _ _
  have un : ∀ z', z' ≠ p → up kids p kl z' = kids z' := fun z' h => up_ne _ _ h
  have hp : p ∈ L.erase q := (List.mem_erase_of_ne hne).2 pL
  refine ⟨up kids p kl, ⟨hf, List.nodup_cons.2 ⟨pA, (List.nodup_cons.1 h.an).2⟩, fun z' hz' => ?_, fun d hd hbd => ?_, fun z' hz' => ?_⟩, by rw [up1, hkl, lp]⟩
  · rcases List.mem_cons.1 hz' with rfl | q'
    · exact hp
    · exact (List.mem_erase_of_ne (fun e => qA (by rw [← e]; exact q'))).2 (h.sub z' (List.mem_cons_of_mem _ q'))
  · by_cases e : d = (kids x).length
    · subst e; exact absurd (up_same _ _ _) hbd
    · rw [up_ne _ _ e] at hbd ⊢
      obtain ⟨z', e1, e2, e3, e4⟩ := h.b1 d hd hbd
      have n1 : z' ≠ p := fun q' => e (by rw [← e4, q', lp])
      have n2 : z' ≠ q := fun q' => e (by rw [← e4, q', lq])
      refine ⟨z', e1, (List.mem_erase_of_ne n2).2 e2, fun hm' => ?_, by rw [un z' n1]; exact e4⟩
      rcases List.mem_cons.1 hm' with q' | q'
      · exact n1 q'
      · exact e3 (List.mem_cons_of_mem _ q')
  · have n2 : z' ≠ q := fun e => by subst e; exact h.fr.lnd.not_mem_erase hz'
    by_cases n1 : z' = p
    · exact .inl (by simp [n1])
    · have n3 : z' ≠ x ∧ z' ≠ z := ⟨fun e => (hor z').1 (.inl e) |>.elim n1 n2, fun e => (hor z').1 (.inr e) |>.elim n1 n2⟩
      rcases h.b2 z' (List.mem_of_mem_erase hz') with q' | q'
      · exact .inl (List.mem_cons_of_mem _ ((List.mem_cons.1 q').resolve_left n3.1))
      · right
        rw [un z' n1]
        rw [up_ne _ _ (fun e => ?_)]
        · exact q'
        · rw [e, hb] at q'
          exact n3.2 (by omega)
/-- There is none: it is named. -/
theorem Gt.named {x : Nat} (h : Gt s kids L b (x :: A)) (hb : b (kids x).length = 0) : Gt s kids L (up b (kids x).length ((x : Int) + 1)) A := by
  have hxL := h.sub x (by simp)
  have hxA : x ∉ A := (List.nodup_cons.1 h.an).1
  refine ⟨h.fr, (List.nodup_cons.1 h.an).2, fun z hz => h.sub z (List.mem_cons_of_mem _ hz), fun d hd hbd => ?_, fun z hz => ?_⟩
  · by_cases e : d = (kids x).length
    · subst e
      exact ⟨x, up_same _ _ _, hxL, hxA, rfl⟩
    · rw [up_ne _ _ e] at hbd ⊢
      obtain ⟨z, e1, e2, e3, e4⟩ := h.b1 d hd hbd
      exact ⟨z, e1, e2, fun hm => e3 (List.mem_cons_of_mem _ hm), e4⟩
  · by_cases e : z = x
    · subst e; exact .inr (up_same _ _ _)
    · rcases h.b2 z hz with q | q
      · exact .inl ((List.mem_cons.1 q).resolve_left e)
      · right
        rw [up_ne _ _ (fun e2 => ?_)]
        · exact q
        · rw [e2, hb] at q; omega
/-- gathered's second loop: the tops of degrees below i are roots again. -/
structure Rs (s : Hp) (kids : Nat → List Nat) (L : List Nat) (b : Nat → Int) (i : Nat) (least : Int) (R : List Nat) : Prop where
  fr : Frst s kids none L
  rt : Rts s least R
  mem : ∀ z, z ∈ R ↔ z ∈ L ∧ (kids z).length < i
  b1 : ∀ d, d < 64 → b d ≠ 0 → ∃ z : Nat, b d = (z : Int) + 1 ∧ z ∈ L ∧ (kids z).length = d
  b2 : ∀ z ∈ L, b (kids z).length = (z : Int) + 1
theorem Gt.roots (h : Gt s kids L b []) : Rs s kids L b 0 0 [] :=
  ⟨h.fr, ⟨trivial, List.nodup_nil, (fun _ h => nomatch h), rfl, (fun _ _ e => nomatch e)⟩, fun z => ⟨(fun h => nomatch h), (fun h => by omega)⟩,
    fun d hd hb => by obtain ⟨z, e1, e2, -, e4⟩ := h.b1 d hd hb; exact ⟨z, e1, e2, e4⟩, fun z hz => (h.b2 z hz).resolve_left (fun h => nomatch h)⟩
theorem Rs.none {i : Nat} (h : Rs s kids L b i least R) (hb : b i = 0) : Rs s kids L b (i + 1) least R := by
  refine ⟨h.fr, h.rt, fun z => ?_, h.b1, h.b2⟩
  rw [h.mem]
  refine ⟨fun q => ⟨q.1, by omega⟩, fun q => ⟨q.1, ?_⟩⟩
  have := h.b2 z q.1
  by_cases e : (kids z).length = i
  · rw [e, hb] at this; omega
  · omega
theorem Rs.some {i x : Nat} (h : Rs s kids L b i least R) (hi : i < 64) (hb : b i = (x : Int) + 1) : (s.th x = true ∧ x < s.m) ∧ ∃ R', Rs (s.rootS least x) kids L b (i + 1) (s.rootL least x) R' := by
  obtain ⟨z, e, hx, hl⟩ := h.b1 i hi (by omega)
  have : z = x := by omega
  subst this
  have tx := (h.fr.lth z hx).1
  have hxR : z ∉ R := fun hm => by have := ((h.mem z).1 hm).2; omega
  obtain ⟨⟨R', p, hR⟩, hf⟩ := h.rt.root h.fr (fun y hy => ((h.mem y).1 hy).1) hx hxR
  refine ⟨⟨tx, h.fr.ltm z tx⟩, R', hf, hR, fun y => ?_, h.b1, h.b2⟩
  rw [p.mem_iff, List.mem_cons, h.mem]
  constructor
  · rintro (rfl | q)
    · exact ⟨hx, by omega⟩
    · exact ⟨q.1, by omega⟩
  · rintro ⟨q1, q2⟩
    by_cases e : (kids y).length = i
    · left
      have := h.b2 y q1
      rw [e, hb] at this
      omega
    · exact .inr ⟨q1, by omega⟩
/-- A heap: its entries, the least root's place and 1, and how many there are. -/
def Good (s : Hp) (least n : Int) : Prop := s.m ≤ 1048576 ∧ n = ((List.range s.m).countP s.th : Int) ∧ ∃ kids L, Frst s kids none L ∧ Rts s least L
theorem Rs.whole {n : Int} (h : Rs s kids L b 64 least R) (hm : s.m ≤ 1048576) (hn : n = ((List.range s.m).countP s.th : Int)) : Good s least n := by
  refine ⟨hm, hn, kids, R, h.fr.perm ?_, h.rt⟩
  refine (List.perm_ext_iff_of_nodup h.fr.lnd h.rt.nd).2 fun z => ?_
  rw [h.mem]
  exact ⟨fun q => ⟨q, by have := h.fr.deg hm (h.fr.lth z q).1; omega⟩, fun q => q.1⟩
/-- What Insert makes of the entries, ahead of root. -/
def Hp.insS (s : Hp) (k : K3) : Hp := ⟨s.m + 1, up s.key s.m k, up s.par s.m (-1), up s.ch s.m (-1), up s.lf s.m 0, up s.rt s.m 0, up s.dg s.m 0, up s.mr s.m false, up s.th s.m true⟩
theorem count_ins (f : Nat → Bool) (m : Nat) : (List.range (m + 1)).countP (up f m true) = (List.range m).countP f + 1 := by
  rw [List.range_succ, List.countP_append]
  congr 1
  · exact List.countP_congr fun z hz => by
      have : z ≠ m := fun e => by simp [e] at hz
      rw [up_ne _ _ this]
  · simp [up_same]
theorem count_del (f : Nat → Bool) : ∀ (m : Nat) {x : Nat}, x < m → f x = true → (List.range m).countP (up f x false) + 1 = (List.range m).countP f
  | 0, x, h, _ => by omega
  | m + 1, x, h, hf => by
    rw [List.range_succ, List.countP_append, List.countP_append]
    by_cases e : x = m
    · subst e
      have : (List.range x).countP (up f x false) = (List.range x).countP f := List.countP_congr fun z hz => by
        have : z ≠ x := fun e => by simp [e] at hz
        rw [up_ne _ _ this]
      simp [this, up_same, hf]
    · have := count_del f m (x := x) (by omega) hf
      have e2 : [m].countP (up f x false) = [m].countP f := List.countP_congr fun z hz => by
        have : z ≠ x := fun e2 => by simp at hz; omega
        rw [up_ne _ _ this]
      omega
theorem Good.insert {n : Int} {k : K3} (h : Good s least n) (hk : okK k) (hm : s.m < 1048576) : Good ((s.insS k).rootS least s.m) ((s.insS k).rootL least s.m) (n + 1) := by
  obtain ⟨h0, h1, kids, L, hf, hr⟩ := h
  have hlt : ∀ z ∈ L, z < s.m ∧ z ≠ s.m := fun z hz => ⟨hf.ltm z (hf.lth z hz).1, fun e => by have := hf.ltm z (hf.lth z hz).1; omega⟩
  have hF : Frst (s.insS k) (up kids s.m []) none (s.m :: L) := hf.insert hk rfl rfl rfl (up_same _ _ _) (up_same _ _ _) fun z hz => by
    have : z ≠ s.m := by omega
    exact ⟨up_ne _ _ this, up_ne _ _ this, up_ne _ _ this, up_ne _ _ this, up_ne _ _ this, up_ne _ _ this⟩
  have hR : Rts (s.insS k) least L := by
    refine ⟨hr.rg.congr fun y hy => ⟨up_ne _ _ (hlt y hy).2, up_ne _ _ (hlt y hy).2⟩, hr.nd, fun r hr' => ?_, hr.le, fun r t e z hz => ?_⟩
    · have := hr.rp r hr'
      exact ⟨(up_ne _ _ (hlt r hr').2).trans this.1, (up_ne _ _ (hlt r hr').2).trans this.2⟩
    · subst e
      have := hr.mn r t rfl z hz
      unfold Hp.lt at *
      show Ltk (up s.key s.m k r) r (up s.key s.m k z) z
      rw [up_ne _ _ (hlt r (by simp)).2, up_ne _ _ (hlt z (List.mem_cons_of_mem _ hz)).2]
      exact this
  obtain ⟨⟨R', p, hR'⟩, hF'⟩ := hR.root hF (fun z hz => List.mem_cons_of_mem _ hz) (by simp) (fun hm' => (hlt _ hm').2 rfl)
  obtain ⟨e1, e2, e3, -, -⟩ := Hp.rootS_same (s.insS k) least s.m
  refine ⟨by rw [e1]; exact hm, ?_, _, R', hF'.perm p.symm, hR'⟩
  rw [e1, e3]
  show n + 1 = ((List.range (s.m + 1)).countP (up s.th s.m true) : Int)
  rw [count_ins, h1]
  omega
/-- The entry of handle x is cleared. -/
def Hp.clear (s : Hp) (x : Nat) : Hp := ⟨s.m, up s.key x (0, 0, 0), up s.par x 0, up s.ch x 0, up s.lf x 0, up s.rt x 0, up s.dg x 0, up s.mr x false, up s.th x false⟩
/-- What Min answers: the least one of all. -/
theorem Good.min {n : Int} (h : Good s least n) : (least = 0 ∧ n = 0 ∧ ∀ z, s.th z = false) ∨ ∃ x : Nat, least = (x : Int) + 1 ∧ x < s.m ∧ s.th x = true ∧ 0 < n ∧ ∀ z, s.th z = true → z = x ∨ s.lt x z := by
  obtain ⟨h0, h1, kids, L, hf, hr⟩ := h
  cases L with
  | nil =>
    have hall : ∀ (n z : Nat), lw s z < n → s.th z ≠ true := by
      intro n
      induction n with
      | zero => intro z h; omega
      | succ n ih =>
        intro z hn hz
        rcases hf.cov z hz with q | ⟨p, hp, q⟩
        · cases q
        · have o := hf.ord hp q
          have := lw_lt hf hp o.1 o.2
          exact ih p (by omega) hp
    have hall2 : ∀ z, s.th z = false := fun z => by
      cases e : s.th z with
      | false => rfl
      | true => exact absurd e (hall _ z (Nat.lt_succ_self _))
    refine .inl ⟨hr.le, ?_, hall2⟩
    rw [h1, List.countP_eq_zero.2 (fun z _ => by rw [hall2]; decide)]
    rfl
  | cons x t =>
    have tx := (hf.lth x (by simp)).1
    have hxm := hf.ltm x tx
    refine .inr ⟨x, hr.le, hxm, tx, ?_, fun z hz => hf.least (r := x) (by simp) (fun y hy => ?_) _ z (Nat.lt_succ_self _) hz⟩
    · have := count_del s.th s.m hxm tx
      omega
    · rcases List.mem_cons.1 hy with e | q
      · exact .inl e
      · exact .inr (hr.mn x t rfl y q)
/-- Pop, ahead of gathered: the roots' ring and the children's, the least one cleared. -/
theorem Good.popped {n : Int} {x : Nat} (h : Good s least n) (hl : least = (x : Int) + 1) : ∃ t kl, (s.th x = true ∧ x < s.m) ∧ Ring s.lf s.rt (x :: t) ∧ (x :: t).Nodup ∧ (∀ z ∈ x :: t, z < s.m) ∧
    Ring s.lf s.rt kl ∧ kl.Nodup ∧ s.ch x = hd kl ∧ (∀ z ∈ kl, z < s.m) ∧ ∃ kids, Frst (s.clear x) kids none (t ++ kl) ∧ n - 1 = ((List.range (s.clear x).m).countP (s.clear x).th : Int) := by
  obtain ⟨h0, h1, kids, L, hf, hr⟩ := h
  cases L with
  | nil => have := hr.le; rw [hl] at this; simp [hd1] at this; omega
  | cons y t =>
    have := hr.le
    rw [hl] at this
    have : x = y := by simp [hd1] at this; omega
    subst this
    have tx := (hf.lth x (by simp)).1
    have hxm := hf.ltm x tx
    have hF := hf.pop (s' := s.clear x) (x := x) (by simp) rfl rfl fun z hz => ⟨up_ne _ _ hz, up_ne _ _ hz, up_ne _ _ hz, up_ne _ _ hz, up_ne _ _ hz, up_ne _ _ hz, up_ne _ _ hz⟩
    rw [List.erase_cons_head] at hF
    refine ⟨t, kids x, ⟨tx, hxm⟩, hr.rg, hr.nd, fun z hz => hf.ltm z (hf.lth z hz).1, hf.krg x tx, hf.knd x tx, hf.kch x tx, fun z hz => hf.ltm z (hf.ord tx hz).1, kids, hF, ?_⟩
    have := count_del s.th s.m hxm tx
    show n - 1 = ((List.range s.m).countP (up s.th x false) : Int)
    omega
end Go.Proofs.Yteccpjijlkjneaa
