/- Fibonacci heaps, plain: forests over handles; what the operations keep. No program is in sight. -/
import Derived.Test.YteccpjijlkjneaaFbA
namespace Go.Proofs.Yteccpjijlkjneaa
/-- The entries, field by field, over their handles 0 .. m-1. -/
structure Hp where
  m : Nat
  key : Nat → K3
  par : Nat → Int
  ch : Nat → Int
  lf : Nat → Int
  rt : Nat → Int
  dg : Nat → Int
  mr : Nat → Bool
  th : Nat → Bool
def Hp.lt (s : Hp) (a b : Nat) : Prop := Ltk (s.key a) a (s.key b) b
def hd : List Nat → Int
  | [] => -1
  | a :: _ => (a : Int)
/-- A child's rank: its children, and what it has lost; one more at the exception. -/
def vl (s : Hp) (kids : Nat → List Nat) (e : Option Nat) (c : Nat) : Nat := (kids c).length + (if s.mr c then 1 else 0) + (if e = some c then 1 else 0)
/-- The entries that are there are a forest: kids: the children of each, in their ring's order; L: the tops; e: the one whose order and rank are in suspense. -/
structure Frst (s : Hp) (kids : Nat → List Nat) (e : Option Nat) (L : List Nat) : Prop where
  ltm : ∀ x, s.th x = true → x < s.m
  okk : ∀ x, s.th x = true → okK (s.key x)
  kth : ∀ x, s.th x = true → ∀ c ∈ kids x, s.th c = true ∧ s.par c = (x : Int) ∧ x ≠ c ∧ (e = some c ∨ s.lt x c)
  knd : ∀ x, s.th x = true → (kids x).Nodup
  krg : ∀ x, s.th x = true → Ring s.lf s.rt (kids x)
  kch : ∀ x, s.th x = true → s.ch x = hd (kids x)
  kdg : ∀ x, s.th x = true → s.dg x = ((kids x).length : Int)
  kbn : ∀ x, s.th x = true → ∀ t, (kids x).countP (fun c => decide (vl s kids e c < t)) ≤ t
  lnd : L.Nodup
  lth : ∀ x ∈ L, s.th x = true ∧ ∀ p, s.th p = true → x ∉ kids p
  cov : ∀ x, s.th x = true → x ∈ L ∨ ∃ p, s.th p = true ∧ x ∈ kids p
variable {s s' : Hp} {kids kids' : Nat → List Nat} {L L' : List Nat} {e : Option Nat}
theorem Frst.perm (h : Frst s kids e L) (p : L.Perm L') : Frst s kids e L' :=
  { h with lnd := p.nodup_iff.1 h.lnd, lth := fun x hx => h.lth x (p.mem_iff.2 hx), cov := fun x hx => (h.cov x hx).imp p.mem_iff.1 id }
theorem vl_mono (s : Hp) (kids : Nat → List Nat) (e : Option Nat) (c : Nat) : vl s kids none c ≤ vl s kids e c := by unfold vl; simp
/-- The exception asks for less. -/
theorem Frst.except (h : Frst s kids none L) (e : Option Nat) : Frst s kids e L :=
  { h with
    kth := fun x hx c hc => by
      obtain ⟨h1, h2, h3, h4⟩ := h.kth x hx c hc
      exact ⟨h1, h2, h3, .inr (h4.resolve_left (by simp))⟩
    kbn := fun x hx t => Nat.le_trans (List.countP_mono_left (fun c _ hc => by
      simp only [decide_eq_true_eq] at *
      have := vl_mono s kids e c
      omega)) (h.kbn x hx t) }
/-- At a top the exception says nothing. -/
theorem Frst.settle {x : Nat} (h : Frst s kids (some x) L) (hx : x ∈ L) : Frst s kids none L :=
  have hne : ∀ y, s.th y = true → ∀ c ∈ kids y, x ≠ c := fun y hy c hc e => (h.lth x hx).2 y hy (by rw [e]; exact hc)
  { h with
    kth := fun y hy c hc => by
      obtain ⟨h1, h2, h3, h4⟩ := h.kth y hy c hc
      exact ⟨h1, h2, h3, .inr (h4.resolve_left (fun q => hne y hy c hc (by injection q)))⟩
    kbn := fun y hy t => Nat.le_trans (Nat.le_of_eq (List.countP_congr (fun c hc => by
      have : (some x = some c) = False := by simp; exact hne y hy c hc
      simp [vl, this]))) (h.kbn y hy t) }
/-- Only tops are changed, and not in what their trees are. -/
theorem Frst.tops (h : Frst s kids e L) (em : s'.m = s.m) (ek : s'.key = s.key) (et : s'.th = s.th) (ec : ∀ x, s.th x = true → s'.ch x = s.ch x) (ed : ∀ x, s.th x = true → s'.dg x = s.dg x)
    (hz : ∀ z, z ∉ L → s.th z = true → s'.par z = s.par z ∧ s'.lf z = s.lf z ∧ s'.rt z = s.rt z ∧ s'.mr z = s.mr z) : Frst s' kids e L := by
  have hk : ∀ x, s.th x = true → ∀ c ∈ kids x, c ∉ L ∧ s.th c = true := fun x hx c hc => ⟨fun hl => (h.lth c hl).2 x hx hc, (h.kth x hx c hc).1⟩
  refine ⟨fun x hx => ?_, fun x hx => ?_, fun x hx c hc => ?_, fun x hx => ?_, fun x hx => ?_, fun x hx => ?_, fun x hx => ?_, fun x hx t => ?_, h.lnd, fun x hx => ?_, fun x hx => ?_⟩ <;> (try rw [et] at hx)
  · rw [em]; exact h.ltm x hx
  · rw [ek]; exact h.okk x hx
  · obtain ⟨h1, h2, h3, h4⟩ := h.kth x hx c hc
    refine ⟨by rw [et]; exact h1, by rw [(hz c (hk x hx c hc).1 h1).1]; exact h2, h3, ?_⟩
    unfold Hp.lt at *
    rw [ek]
    exact h4
  · exact h.knd x hx
  · exact (h.krg x hx).congr fun y hy => ⟨(hz y (hk x hx y hy).1 (hk x hx y hy).2).2.2.1, (hz y (hk x hx y hy).1 (hk x hx y hy).2).2.1⟩
  · rw [ec x hx]; exact h.kch x hx
  · rw [ed x hx]; exact h.kdg x hx
  · refine Nat.le_trans (Nat.le_of_eq (List.countP_congr (fun c hc => ?_))) (h.kbn x hx t)
    rw [show vl s' kids e c = vl s kids e c by unfold vl; rw [(hz c (hk x hx c hc).1 (hk x hx c hc).2).2.2.2]]
  · rw [et]; exact h.lth x hx
  · rw [et]; exact h.cov x hx
/-- A child of one is no child of another one. -/
theorem Frst.one_parent (h : Frst s kids e L) {p q c : Nat} (hp : s.th p = true) (hq : s.th q = true) (h1 : c ∈ kids p) (h2 : c ∈ kids q) : p = q := by
  have a := (h.kth p hp c h1).2.1
  have b := (h.kth q hq c h2).2.1
  omega
/-- Top y is put under top x. -/
theorem Frst.under {x y : Nat} {kl : List Nat} (h : Frst s kids none L) (hx : x ∈ L) (hy : y ∈ L) (hlt : s.lt x y) (hdg : (kids x).length ≤ (kids y).length)
    (em : s'.m = s.m) (ek : s'.key = s.key) (et : s'.th = s.th) (emk : s'.mr = s.mr) (ep : s'.par = up s.par y (x : Int)) (ec : ∀ z, z ≠ x → s'.ch z = s.ch z) (ed : s'.dg = up s.dg x (s.dg x + 1))
    (hlr : ∀ z, z ∉ y :: kids x → s'.lf z = s.lf z ∧ s'.rt z = s.rt z) (hkl : kl.Perm (y :: kids x)) (hring : Ring s'.lf s'.rt kl) (hhd : s'.ch x = hd kl) : Frst s' (up kids x kl) none (L.erase y) := by
  have hxy : x ≠ y := fun e => by subst e; exact ltk_irr _ _ hlt
  have tx := h.lth x hx
  have ty := h.lth y hy
  have ux : up kids x kl x = kl := up_same _ _ _
  have un : ∀ z, z ≠ x → up kids x kl z = kids z := fun z hz => up_ne _ _ hz
  have hmem : ∀ c, c ∈ kl ↔ c = y ∨ c ∈ kids x := fun c => by rw [hkl.mem_iff]; simp
  have hlen : kl.length = (kids x).length + 1 := by rw [hkl.length_eq]; rfl
  have hvl : ∀ c, c ≠ x → vl s' (up kids x kl) none c = vl s kids none c := fun c hc => by unfold vl; rw [un c hc, emk]
  have hcx : ∀ z, s.th z = true → ∀ c ∈ kids z, c ≠ x := fun z hz c hc e => tx.2 z hz (by rw [← e]; exact hc)
  refine ⟨fun z hz => ?_, fun z hz => ?_, fun z hz c hc => ?_, fun z hz => ?_, fun z hz => ?_, fun z hz => ?_, fun z hz => ?_, fun z hz t => ?_, h.lnd.erase _, fun z hz => ?_, fun z hz => ?_⟩ <;> (try rw [et] at hz)
  · rw [em]; exact h.ltm z hz
  · rw [ek]; exact h.okk z hz
  · by_cases e : z = x
    · subst e
      rw [ux, hmem] at hc
      rw [et, ep]
      unfold Hp.lt
      rw [ek]
      rcases hc with rfl | hc
      · exact ⟨ty.1, up_same _ _ _, hxy, .inr hlt⟩
      · obtain ⟨h1, h2, h3, h4⟩ := h.kth z hz c hc
        have : c ≠ y := fun e => ty.2 z hz (by rw [← e]; exact hc)
        exact ⟨h1, by rw [up_ne _ _ this]; exact h2, h3, h4⟩
    · rw [un z e] at hc
      obtain ⟨h1, h2, h3, h4⟩ := h.kth z hz c hc
      have : c ≠ y := fun e => ty.2 z hz (by rw [← e]; exact hc)
      rw [et, ep]
      unfold Hp.lt at *
      rw [ek]
      exact ⟨h1, by rw [up_ne _ _ this]; exact h2, h3, h4⟩
  · by_cases e : z = x
    · subst e
      rw [ux, hkl.nodup_iff]
      exact List.nodup_cons.2 ⟨ty.2 z hz, h.knd z hz⟩
    · rw [un z e]; exact h.knd z hz
  · by_cases e : z = x
    · subst e; rw [ux]; exact hring
    · rw [un z e]
      refine (h.krg z hz).congr fun c hc => ?_
      have : c ∉ y :: kids x := fun hm => by
        rcases List.mem_cons.1 hm with q | q
        · exact ty.2 z hz (by rw [← q]; exact hc)
        · exact e (h.one_parent hz tx.1 hc q)
      exact ⟨(hlr c this).2, (hlr c this).1⟩
  · by_cases e : z = x
    · subst e; rw [ux]; exact hhd
    · rw [un z e, ec z e]; exact h.kch z hz
  · rw [ed]
    by_cases e : z = x
    · subst e
      rw [ux, up_same, hlen, h.kdg z hz]
      omega
    · rw [un z e, up_ne _ _ e]; exact h.kdg z hz
  · by_cases e : z = x
    · subst e
      rw [ux, hkl.countP_eq]
      have hold := h.kbn z hz t
      have hsame : (kids z).countP (fun c => decide (vl s' (up kids z kl) none c < t)) = (kids z).countP (fun c => decide (vl s kids none c < t)) := List.countP_congr (fun c hc => by rw [hvl c (hcx z hz c hc)])
      have hle := List.countP_le_length (p := fun c => decide (vl s kids none c < t)) (l := kids z)
      rw [List.countP_cons, hsame]
      by_cases hv : vl s' (up kids z kl) none y < t
      · rw [if_pos (by simpa using hv)]
        rw [hvl y (Ne.symm hxy)] at hv
        unfold vl at hv
        omega
      · rw [if_neg (by simpa using hv)]
        omega
    · rw [un z e]
      have hsame : (kids z).countP (fun c => decide (vl s' (up kids x kl) none c < t)) = (kids z).countP (fun c => decide (vl s kids none c < t)) := List.countP_congr (fun c hc => by rw [hvl c (hcx z hz c hc)])
      rw [hsame]
      exact h.kbn z hz t
  · have hz' := List.mem_of_mem_erase hz
    have hzy : z ≠ y := fun e => by subst e; exact (h.lnd.not_mem_erase) hz
    obtain ⟨h1, h2⟩ := h.lth z hz'
    refine ⟨by rw [et]; exact h1, fun p hp => ?_⟩
    rw [et] at hp
    by_cases e : p = x
    · subst e
      rw [ux, hmem]
      rintro (q | q)
      · exact hzy q
      · exact h2 p hp q
    · rw [un p e]; exact h2 p hp
  · rw [et]
    by_cases e : z = y
    · subst e
      exact .inr ⟨x, tx.1, by rw [ux, hmem]; exact .inl rfl⟩
    · rcases h.cov z hz with q | ⟨p, hp, q⟩
      · exact .inl ((List.mem_erase_of_ne e).2 q)
      · refine .inr ⟨p, hp, ?_⟩
        by_cases e : p = x
        · subst e; rw [ux, hmem]; exact .inr q
        · rw [un p e]; exact q
/-- A top is taken out; its children are tops. -/
theorem Frst.pop {x : Nat} (h : Frst s kids none L) (hx : x ∈ L) (em : s'.m = s.m) (et : s'.th = up s.th x false)
    (hz : ∀ z, z ≠ x → s'.key z = s.key z ∧ s'.par z = s.par z ∧ s'.ch z = s.ch z ∧ s'.lf z = s.lf z ∧ s'.rt z = s.rt z ∧ s'.dg z = s.dg z ∧ s'.mr z = s.mr z) : Frst s' kids none (L.erase x ++ kids x) := by
  have tx := h.lth x hx
  have hth : ∀ z, s'.th z = true → z ≠ x ∧ s.th z = true := fun z hz => by
    rw [et] at hz
    by_cases e : z = x
    · subst e; rw [up_same] at hz; cases hz
    · rw [up_ne _ _ e] at hz; exact ⟨e, hz⟩
  have hth' : ∀ z, z ≠ x → s.th z = true → s'.th z = true := fun z e hz => by rw [et, up_ne _ _ e]; exact hz
  have hcx : ∀ z, s.th z = true → ∀ c ∈ kids z, c ≠ x := fun z hz c hc e => tx.2 z hz (by rw [← e]; exact hc)
  refine ⟨fun z hz' => ?_, fun z hz' => ?_, fun z hz' c hc => ?_, fun z hz' => ?_, fun z hz' => ?_, fun z hz' => ?_, fun z hz' => ?_, fun z hz' t => ?_, ?_, fun z hz' => ?_, fun z hz' => ?_⟩
  · rw [em]; exact h.ltm z (hth z hz').2
  · rw [(hz z (hth z hz').1).1]; exact h.okk z (hth z hz').2
  · obtain ⟨h1, h2, h3, h4⟩ := h.kth z (hth z hz').2 c hc
    have hc' := hcx z (hth z hz').2 c hc
    refine ⟨hth' c hc' h1, by rw [(hz c hc').2.1]; exact h2, h3, ?_⟩
    unfold Hp.lt at *
    rw [(hz c hc').1, (hz z (hth z hz').1).1]
    exact h4
  · exact h.knd z (hth z hz').2
  · refine (h.krg z (hth z hz').2).congr fun c hc => ?_
    have hc' := hcx z (hth z hz').2 c hc
    exact ⟨(hz c hc').2.2.2.2.1, (hz c hc').2.2.2.1⟩
  · rw [(hz z (hth z hz').1).2.2.1]; exact h.kch z (hth z hz').2
  · rw [(hz z (hth z hz').1).2.2.2.2.2.1]; exact h.kdg z (hth z hz').2
  · refine Nat.le_trans (Nat.le_of_eq (List.countP_congr (fun c hc => ?_))) (h.kbn z (hth z hz').2 t)
    simp [vl, (hz c (hcx z (hth z hz').2 c hc)).2.2.2.2.2.2]
  · refine List.nodup_append.2 ⟨h.lnd.erase _, h.knd x tx.1, fun a ha b hb e => ?_⟩
    subst e
    exact (h.lth a (List.mem_of_mem_erase ha)).2 x tx.1 hb
  · rcases List.mem_append.1 hz' with q | q
    · have hzx : z ≠ x := fun e => by subst e; exact (h.lnd.not_mem_erase) q
      obtain ⟨h1, h2⟩ := h.lth z (List.mem_of_mem_erase q)
      exact ⟨hth' z hzx h1, fun p hp => h2 p (hth p hp).2⟩
    · obtain ⟨h1, h2, h3, h4⟩ := h.kth x tx.1 z q
      exact ⟨hth' z (Ne.symm h3) h1, fun p hp hm => (hth p hp).1 (h.one_parent (hth p hp).2 tx.1 hm q)⟩
  · obtain ⟨e, hzt⟩ := hth z hz'
    rcases h.cov z hzt with q | ⟨p, hp, q⟩
    · exact .inl (List.mem_append.2 (.inl ((List.mem_erase_of_ne e).2 q)))
    · by_cases e2 : p = x
      · subst e2; exact .inl (List.mem_append.2 (.inr q))
      · exact .inr ⟨p, hth' p e2 hp, q⟩
/-- A new entry is a top. -/
theorem Frst.insert {k : K3} (h : Frst s kids none L) (hk : okK k) (em : s'.m = s.m + 1) (et : s'.th = up s.th s.m true) (ek : s'.key = up s.key s.m k) (ec : s'.ch s.m = -1) (ed : s'.dg s.m = 0)
    (hz : ∀ z, z < s.m → s'.par z = s.par z ∧ s'.ch z = s.ch z ∧ s'.lf z = s.lf z ∧ s'.rt z = s.rt z ∧ s'.dg z = s.dg z ∧ s'.mr z = s.mr z) : Frst s' (up kids s.m []) none (s.m :: L) := by
  have hm : s.th s.m ≠ true := fun hh => by have := h.ltm _ hh; omega
  have un : ∀ z, z ≠ s.m → up kids s.m [] z = kids z := fun z hz => up_ne _ _ hz
  have hlt : ∀ z, s.th z = true → z < s.m ∧ z ≠ s.m := fun z hz => ⟨h.ltm z hz, fun e => by have := h.ltm z hz; omega⟩
  have hth : ∀ z, s'.th z = true → z = s.m ∨ (z ≠ s.m ∧ s.th z = true) := fun z hz => by
    rw [et] at hz
    by_cases e : z = s.m
    · exact .inl e
    · rw [up_ne _ _ e] at hz; exact .inr ⟨e, hz⟩
  have hth' : ∀ z, s.th z = true → s'.th z = true := fun z hz => by rw [et, up_ne _ _ (hlt z hz).2]; exact hz
  have hmm : s'.th s.m = true := by rw [et, up_same]
  refine ⟨fun z hz' => ?_, fun z hz' => ?_, fun z hz' c hc => ?_, fun z hz' => ?_, fun z hz' => ?_, fun z hz' => ?_, fun z hz' => ?_, fun z hz' t => ?_, ?_, fun z hz' => ?_, fun z hz' => ?_⟩
  · rw [em]
    rcases hth z hz' with rfl | ⟨-, q⟩
    · omega
    · have := h.ltm z q; omega
  · rw [ek]
    rcases hth z hz' with rfl | ⟨e, q⟩
    · rw [up_same]; exact hk
    · rw [up_ne _ _ e]; exact h.okk z q
  · rcases hth z hz' with rfl | ⟨e, q⟩
    · rw [up_same] at hc; cases hc
    · rw [un z e] at hc
      obtain ⟨h1, h2, h3, h4⟩ := h.kth z q c hc
      refine ⟨hth' c h1, by rw [(hz c (hlt c h1).1).1]; exact h2, h3, ?_⟩
      unfold Hp.lt at *
      rw [ek, up_ne _ _ (hlt c h1).2, up_ne _ _ e]
      exact h4
  · rcases hth z hz' with rfl | ⟨e, q⟩
    · rw [up_same]; exact List.nodup_nil
    · rw [un z e]; exact h.knd z q
  · rcases hth z hz' with rfl | ⟨e, q⟩
    · rw [up_same]; trivial
    · rw [un z e]
      refine (h.krg z q).congr fun c hc => ?_
      have hc' := (hlt c (h.kth z q c hc).1).1
      exact ⟨(hz c hc').2.2.2.1, (hz c hc').2.2.1⟩
  · rcases hth z hz' with rfl | ⟨e, q⟩
    · rw [up_same, ec]; rfl
    · rw [un z e, (hz z (hlt z q).1).2.1]; exact h.kch z q
  · rcases hth z hz' with rfl | ⟨e, q⟩
    · rw [up_same, ed]; rfl
    · rw [un z e, (hz z (hlt z q).1).2.2.2.2.1]; exact h.kdg z q
  · rcases hth z hz' with rfl | ⟨e, q⟩
    · rw [up_same]; simp
    · rw [un z e]
      refine Nat.le_trans (Nat.le_of_eq (List.countP_congr (fun c hc => ?_))) (h.kbn z q t)
      have hc' := hlt c (h.kth z q c hc).1
      simp [vl, un c hc'.2, (hz c hc'.1).2.2.2.2.2]
  · exact List.nodup_cons.2 ⟨fun hh => (hlt _ (h.lth _ hh).1).2 rfl, h.lnd⟩
  · rcases List.mem_cons.1 hz' with rfl | q
    · refine ⟨hmm, fun p hp hmem => ?_⟩
      rcases hth p hp with rfl | ⟨e, q⟩
      · rw [up_same] at hmem; cases hmem
      · rw [un p e] at hmem
        exact (hlt _ (h.kth p q _ hmem).1).2 rfl
    · obtain ⟨h1, h2⟩ := h.lth z q
      refine ⟨hth' z h1, fun p hp hmem => ?_⟩
      rcases hth p hp with rfl | ⟨e, q⟩
      · rw [up_same] at hmem; cases hmem
      · rw [un p e] at hmem; exact h2 p q hmem
  · rcases hth z hz' with rfl | ⟨e, q⟩
    · exact .inl (by simp)
    · rcases h.cov z q with r | ⟨p, hp, r⟩
      · exact .inl (List.mem_cons_of_mem _ r)
      · exact .inr ⟨p, hth' p hp, by rw [un p (hlt p hp).2]; exact r⟩
/-- Child x of p is made a top; what p has lost is p's exception. -/
theorem Frst.cut {x p : Nat} {kl : List Nat} (h : Frst s kids (some x) L) (hp : s.th p = true) (hx : x ∈ kids p)
    (em : s'.m = s.m) (ek : s'.key = s.key) (et : s'.th = s.th) (emk : ∀ z, z ≠ x → s'.mr z = s.mr z) (epar : ∀ z, z ≠ x → s'.par z = s.par z) (ec : ∀ z, z ≠ p → s'.ch z = s.ch z) (ed : s'.dg = up s.dg p (s.dg p - 1))
    (hlr : ∀ z, z ∉ kids p → z ∉ L → s'.lf z = s.lf z ∧ s'.rt z = s.rt z) (hkl : (x :: kl).Perm (kids p)) (hring : Ring s'.lf s'.rt kl) (hhd : s'.ch p = hd kl) : Frst s' (up kids p kl) (some p) (x :: L) := by
  obtain ⟨tx, px, hpx, -⟩ := h.kth p hp x hx
  have ux : up kids p kl p = kl := up_same _ _ _
  have un : ∀ z, z ≠ p → up kids p kl z = kids z := fun z hz => up_ne _ _ hz
  have hnd := hkl.nodup_iff.2 (h.knd p hp)
  have hxk : x ∉ kl := (List.nodup_cons.1 hnd).1
  have hsub : ∀ c, c ∈ kl → c ∈ kids p ∧ c ≠ x := fun c hc => ⟨hkl.mem_iff.1 (List.mem_cons_of_mem _ hc), fun e => hxk (by rw [← e]; exact hc)⟩
  have hmem : ∀ c, c ∈ kids p → c = x ∨ c ∈ kl := fun c hc => List.mem_cons.1 (hkl.mem_iff.2 hc)
  have hlen : kl.length + 1 = (kids p).length := by rw [← hkl.length_eq]; rfl
  have hxn : ∀ z, s.th z = true → z ≠ p → ∀ c ∈ kids z, c ≠ x := fun z hz e c hc e2 => e (h.one_parent hz hp hc (by rw [e2]; exact hx))
  have hcl : ∀ z, s.th z = true → ∀ c ∈ kids z, c ∉ L := fun z hz c hc hl => (h.lth c hl).2 z hz hc
  have hvl : ∀ z, s.th z = true → ∀ c ∈ kids z, c ≠ x → vl s kids (some x) c ≤ vl s' (up kids p kl) (some p) c := fun z hz c hc hcx => by
    unfold vl
    rw [emk c hcx, if_neg (fun e : some x = some c => hcx (by injection e with e; exact e.symm))]
    by_cases e : c = p
    · subst e
      rw [ux, if_pos rfl]; omega
    · rw [un c e, if_neg (fun e2 : some p = some c => e (by injection e2 with e2; exact e2.symm))]
      exact Nat.le_refl _
  refine ⟨fun z hz => ?_, fun z hz => ?_, fun z hz c hc => ?_, fun z hz => ?_, fun z hz => ?_, fun z hz => ?_, fun z hz => ?_, fun z hz t => ?_, ?_, fun z hz => ?_, fun z hz => ?_⟩ <;> (try rw [et] at hz)
  · rw [em]; exact h.ltm z hz
  · rw [ek]; exact h.okk z hz
  · have hc' : c ∈ kids z ∧ c ≠ x := by
      by_cases e : z = p
      · subst e; rw [ux] at hc; exact hsub c hc
      · rw [un z e] at hc; exact ⟨hc, hxn z hz e c hc⟩
    obtain ⟨h1, h2, h3, h4⟩ := h.kth z hz c hc'.1
    refine ⟨by rw [et]; exact h1, by rw [epar c hc'.2]; exact h2, h3, .inr ?_⟩
    unfold Hp.lt at *
    rw [ek]
    exact h4.resolve_left (fun q => hc'.2 (by injection q with q; exact q.symm))
  · by_cases e : z = p
    · subst e; rw [ux]; exact (List.nodup_cons.1 hnd).2
    · rw [un z e]; exact h.knd z hz
  · by_cases e : z = p
    · subst e; rw [ux]; exact hring
    · rw [un z e]
      refine (h.krg z hz).congr fun c hc => ?_
      have : c ∉ kids p := fun hm => e (h.one_parent hz hp hc hm)
      exact ⟨(hlr c this (hcl z hz c hc)).2, (hlr c this (hcl z hz c hc)).1⟩
  · by_cases e : z = p
    · subst e; rw [ux]; exact hhd
    · rw [un z e, ec z e]; exact h.kch z hz
  · rw [ed]
    by_cases e : z = p
    · subst e
      rw [ux, up_same, h.kdg z hz]
      omega
    · rw [un z e, up_ne _ _ e]; exact h.kdg z hz
  · by_cases e : z = p
    · subst e
      rw [ux]
      have h1 := h.kbn z hz t
      rw [← hkl.countP_eq, List.countP_cons] at h1
      have h2 : kl.countP (fun c => decide (vl s' (up kids z kl) (some z) c < t)) ≤ kl.countP (fun c => decide (vl s kids (some x) c < t)) := List.countP_mono_left (fun c hc hh => by
        simp only [decide_eq_true_eq] at *
        have := hvl z hz c (hsub c hc).1 (hsub c hc).2
        omega)
      omega
    · rw [un z e]
      refine Nat.le_trans (List.countP_mono_left (fun c hc hh => ?_)) (h.kbn z hz t)
      simp only [decide_eq_true_eq] at *
      have := hvl z hz c hc (hxn z hz e c hc)
      omega
  · exact List.nodup_cons.2 ⟨fun hl => (h.lth x hl).2 p hp hx, h.lnd⟩
  · rcases List.mem_cons.1 hz with rfl | q
    · refine ⟨by rw [et]; exact tx, fun q hq hm => ?_⟩
      rw [et] at hq
      by_cases e : q = p
      · subst e; rw [ux] at hm; exact hxk hm
      · rw [un q e] at hm; exact hxn q hq e z hm rfl
    · obtain ⟨h1, h2⟩ := h.lth z q
      refine ⟨by rw [et]; exact h1, fun q hq hm => ?_⟩
      rw [et] at hq
      by_cases e : q = p
      · subst e; rw [ux] at hm; exact h2 q hq (hsub z hm).1
      · rw [un q e] at hm; exact h2 q hq hm
  · rcases h.cov z hz with q | ⟨q, hq, r⟩
    · exact .inl (List.mem_cons_of_mem _ q)
    · by_cases e : q = p
      · subst e
        rcases hmem z r with rfl | r
        · exact .inl (by simp)
        · exact .inr ⟨q, by rw [et]; exact hq, by rw [ux]; exact r⟩
      · exact .inr ⟨q, by rw [et]; exact hq, by rw [un q e]; exact r⟩
/-- The mark pays for what was lost. -/
theorem Frst.mark {p : Nat} (h : Frst s kids (some p) L) (hp : s.mr p = false) (em : s'.m = s.m) (ek : s'.key = s.key) (et : s'.th = s.th) (emk : s'.mr = up s.mr p true) (epar : s'.par = s.par) (ec : s'.ch = s.ch) (ed : s'.dg = s.dg) (el : s'.lf = s.lf) (er : s'.rt = s.rt)
    (hlt : ∀ q, s.th q = true → p ∈ kids q → s.lt q p) : Frst s' kids none L := by
  refine ⟨by rw [em, et]; exact h.ltm, by rw [ek, et]; exact h.okk, fun x hx c hc => ?_, by rw [et]; exact h.knd, by rw [et, el, er]; exact h.krg, by rw [et, ec]; exact h.kch, by rw [et, ed]; exact h.kdg, fun x hx t => ?_, h.lnd, by rw [et]; exact h.lth, by rw [et]; exact h.cov⟩
  · rw [et] at hx
    obtain ⟨h1, h2, h3, h4⟩ := h.kth x hx c hc
    refine ⟨by rw [et]; exact h1, by rw [epar]; exact h2, h3, .inr ?_⟩
    unfold Hp.lt at *
    rw [ek]
    rcases h4 with q | q
    · injection q with q; subst q; exact hlt x hx hc
    · exact q
  · rw [et] at hx
    refine Nat.le_trans (Nat.le_of_eq (List.countP_congr (fun c hc => ?_))) (h.kbn x hx t)
    unfold vl
    rw [emk]
    by_cases e : c = p
    · subst e; simp [up_same, hp]
    · simp [up_ne _ _ e, show ¬ p = c from fun q => e q.symm]
end Go.Proofs.Yteccpjijlkjneaa
