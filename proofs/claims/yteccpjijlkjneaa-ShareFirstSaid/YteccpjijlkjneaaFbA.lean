/- Fibonacci heaps, plain: the order of entries, and rings. No program is in sight. -/
import Derived.Below
namespace Go.Proofs.Yteccpjijlkjneaa
/-- A key: numerator, denominator, tie. -/
abbrev K3 := Int × Int × Int
def okK (k : K3) : Prop := (0 ≤ k.1 ∧ k.1 ≤ 18446744073709551615 ∧ k.2.1 ≤ 18446744073709551615) ∧ 0 < k.2.1
/-- Entry a, of key k, comes ahead of entry b, of key l. -/
def Ltk (k : K3) (a : Nat) (l : K3) (b : Nat) : Prop := k.1 * l.2.1 < l.1 * k.2.1 ∨ (k.1 * l.2.1 = l.1 * k.2.1 ∧ (k.2.2 < l.2.2 ∨ (k.2.2 = l.2.2 ∧ a < b)))
instance (k : K3) (a : Nat) (l : K3) (b : Nat) : Decidable (Ltk k a l b) := by unfold Ltk; infer_instance
theorem fr_trans {n1 d1 n2 d2 n3 d3 : Int} (h1 : 0 < d1) (h2 : 0 < d2) (h3 : 0 < d3) (h : n1 * d2 ≤ n2 * d1) (k : n2 * d3 ≤ n3 * d2) : n1 * d3 ≤ n3 * d1 := by
  have e1 := Int.mul_le_mul_of_nonneg_right h (Int.le_of_lt h3)
  have e2 := Int.mul_le_mul_of_nonneg_right k (Int.le_of_lt h1)
  have q : n1 * d3 * d2 ≤ n3 * d1 * d2 := by
    have a1 : n1 * d2 * d3 = n1 * d3 * d2 := by rw [Int.mul_assoc, Int.mul_comm d2, ← Int.mul_assoc]
    have a2 : n2 * d1 * d3 = n2 * d3 * d1 := by rw [Int.mul_assoc, Int.mul_comm d1, ← Int.mul_assoc]
    have a3 : n3 * d2 * d1 = n3 * d1 * d2 := by rw [Int.mul_assoc, Int.mul_comm d2, ← Int.mul_assoc]
    rw [← a1, ← a3]
    rw [a2] at e1
    exact Int.le_trans e1 e2
  exact Int.le_of_mul_le_mul_right q h2
theorem ltk_irr (k : K3) (a : Nat) : ¬ Ltk k a k a := by unfold Ltk; omega
theorem ltk_tot {k l : K3} {a b : Nat} (h : a ≠ b) : Ltk k a l b ∨ Ltk l b k a := by unfold Ltk; omega
theorem ltk_asy {k l : K3} {a b : Nat} (h : Ltk k a l b) : ¬ Ltk l b k a := by unfold Ltk at *; omega
theorem ltk_tr {j k l : K3} {a b c : Nat} (hj : okK j) (hk : okK k) (hl : okK l) (h : Ltk j a k b) (h' : Ltk k b l c) : Ltk j a l c := by
  unfold Ltk at *
  have f1 := @fr_trans j.1 j.2.1 k.1 k.2.1 l.1 l.2.1 hj.2 hk.2 hl.2
  have f2 := @fr_trans l.1 l.2.1 k.1 k.2.1 j.1 j.2.1 hl.2 hk.2 hj.2
  have f3 := @fr_trans k.1 k.2.1 l.1 l.2.1 j.1 j.2.1 hk.2 hl.2 hj.2
  have f4 := @fr_trans l.1 l.2.1 j.1 j.2.1 k.1 k.2.1 hl.2 hj.2 hk.2
  omega
/-- A function with one value changed. -/
def up {α : Type} (f : Nat → α) (i : Nat) (v : α) : Nat → α := fun j => if j = i then v else f j
theorem up_same {α : Type} (f : Nat → α) (i : Nat) (v : α) : up f i v i = v := by simp [up]
theorem up_ne {α : Type} (f : Nat → α) {i j : Nat} (v : α) (h : j ≠ i) : up f i v j = f j := by simp [up, h]
/-- Each is linked with the next one. -/
def Lk (lf rt : Nat → Int) : List Nat → Prop
  | [] => True
  | [_] => True
  | a :: b :: t => rt a = (b : Int) ∧ lf b = (a : Int) ∧ Lk lf rt (b :: t)
theorem Lk.congr {lf rt lf' rt' : Nat → Int} : ∀ {l : List Nat}, (∀ y ∈ l.dropLast, rt' y = rt y) → (∀ y ∈ l.tail, lf' y = lf y) → Lk lf rt l → Lk lf' rt' l
  | [], _, _, _ => trivial
  | [_], _, _, _ => trivial
  | a :: b :: t, h1, h2, ⟨e1, e2, h⟩ => by
    refine ⟨(h1 a (by simp)).trans e1, (h2 b (by simp)).trans e2, Lk.congr (fun y hy => h1 y (by rw [List.dropLast_cons_of_ne_nil (by simp)]; exact List.mem_cons_of_mem _ hy)) (fun y hy => h2 y (List.mem_cons_of_mem _ hy)) h⟩
theorem Lk.split {lf rt : Nat → Int} : ∀ (l : List Nat) (a : Nat) (r : List Nat), Lk lf rt (l ++ a :: r) ↔ Lk lf rt (l ++ [a]) ∧ Lk lf rt (a :: r)
  | [], a, r => by simp [Lk]
  | [x], a, r => by simp [Lk, and_assoc]
  | x :: y :: l, a, r => by
    have := Lk.split (lf := lf) (rt := rt) (y :: l) a r
    simp only [List.cons_append, Lk] at this ⊢
    rw [this]
    simp only [and_assoc]
def Ring (lf rt : Nat → Int) : List Nat → Prop
  | [] => True
  | a :: t => Lk lf rt (a :: t ++ [a])
theorem Ring.congr {lf rt lf' rt' : Nat → Int} {l : List Nat} (h : Ring lf rt l) (e : ∀ y ∈ l, rt' y = rt y ∧ lf' y = lf y) : Ring lf' rt' l := by
  cases l with
  | nil => trivial
  | cons a t =>
    refine Lk.congr (fun y hy => (e y ?_).1) (fun y hy => (e y ?_).2) h
    · rw [List.dropLast_concat] at hy; exact hy
    · simp only [List.cons_append, List.tail_cons, List.mem_append, List.mem_singleton] at hy
      rcases hy with hy | rfl <;> simp [*]
theorem Ring.turn {lf rt : Nat → Int} {a : Nat} {t : List Nat} (h : Ring lf rt (a :: t)) : Ring lf rt (t ++ [a]) := by
  cases t with
  | nil => exact h
  | cons b t =>
    obtain ⟨e1, e2, h⟩ := h
    show Lk lf rt (b :: t ++ [a] ++ [b])
    rw [List.append_assoc]
    exact (Lk.split (b :: t) a [b]).2 ⟨h, e1, e2, trivial⟩
theorem Ring.turns {lf rt : Nat → Int} : ∀ {u t : List Nat}, Ring lf rt (u ++ t) → Ring lf rt (t ++ u)
  | [], t, h => by simpa using h
  | a :: u, t, h => by
    have h1 : Ring lf rt (u ++ t ++ [a]) := Ring.turn h
    rw [List.append_assoc] at h1
    have := Ring.turns (u := u) (t := t ++ [a]) h1
    simpa using this
theorem Ring.one (lf rt : Nat → Int) (x : Nat) : Ring lf rt [x] ↔ rt x = x ∧ lf x = x := by simp [Ring, Lk]
/-- What stands right of the first, and left of it. -/
theorem Ring.right {lf rt : Nat → Int} {a : Nat} {t : List Nat} (h : Ring lf rt (a :: t)) : rt a = ((t ++ [a]).head (by simp) : Nat) := by
  cases t with
  | nil => exact h.1
  | cons b t => exact h.1
theorem Ring.left {lf rt : Nat → Int} {a : Nat} {t : List Nat} (h : Ring lf rt (a :: t)) : lf a = ((a :: t).getLast (by simp) : Nat) := by
  have : ∀ (u : List Nat) (l : Nat), a :: t = u ++ [l] → lf a = (l : Int) := by
    intro u l e
    have h2 : Lk lf rt (a :: t ++ [a]) := h
    rw [e, List.append_assoc] at h2
    exact ((Lk.split u l [a]).1 h2).2.2.1
  exact this _ _ (List.dropLast_concat_getLast (by simp)).symm
/-- x is put right of y. -/
theorem Ring.join {lf rt : Nat → Int} {y x : Nat} {t : List Nat} {r : Nat} (h : Ring lf rt (y :: t)) (hnd : (y :: t).Nodup) (hx : x ∉ y :: t) (hr : rt y = (r : Int)) :
    Ring (up (up lf x (y : Int)) r (x : Int)) (up (up rt x (r : Int)) y (x : Int)) (y :: x :: t) := by
  have hr' := h.right
  rw [hr] at hr'
  obtain ⟨r', t', e⟩ : ∃ r' t', t ++ [y] = r' :: t' := by
    cases t with
    | nil => exact ⟨_, _, rfl⟩
    | cons b t => exact ⟨_, _, rfl⟩
  have er : r = r' := by
    have : (t ++ [y]).head (by simp) = r' := by simp [e]
    rw [this] at hr'
    omega
  subst er
  have hnd' : (r :: t').Nodup := by
    rw [← e]
    have : (y :: t).Perm (t ++ [y]) := (List.perm_append_singleton y t).symm
    exact this.nodup_iff.1 hnd
  have hrm : r ∈ y :: t := by
    have : r ∈ t ++ [y] := by rw [e]; simp
    simp only [List.mem_append, List.mem_singleton] at this
    simp only [List.mem_cons]
    exact this.symm
  have hyx : y ≠ x := fun e => hx (by simp [e])
  have hrx : r ≠ x := fun e => hx (by rw [← e]; exact hrm)
  have hL : Lk lf rt (r :: t') := by
    have h1 : Lk lf rt (y :: (t ++ [y])) := h
    rw [e] at h1
    exact h1.2.2
  show Lk _ _ (y :: x :: (t ++ [y]))
  rw [e]
  refine ⟨up_same _ _ _, ?_, ?_, up_same _ _ _, ?_⟩
  · rw [up_ne _ _ (Ne.symm hrx), up_same]
  · rw [up_ne _ _ (Ne.symm hyx), up_same]
  · refine Lk.congr (fun z hz => ?_) (fun z hz => ?_) hL
    · rw [← e, List.dropLast_concat] at hz
      have h1 : z ≠ y := fun e => by rw [e] at hz; exact (List.nodup_cons.1 hnd).1 hz
      have h2 : z ≠ x := fun e => hx (by rw [← e]; exact List.mem_cons_of_mem _ hz)
      rw [up_ne _ _ h1, up_ne _ _ h2]
    · simp only [List.tail_cons] at hz
      have h1 : z ≠ r := fun e => by rw [e] at hz; exact (List.nodup_cons.1 hnd').1 hz
      have h2 : z ≠ x := fun e2 => hx (by
        have : z ∈ t ++ [y] := by rw [e]; exact List.mem_cons_of_mem _ hz
        rw [← e2]
        simp only [List.mem_append, List.mem_singleton] at this
        simp only [List.mem_cons]
        exact this.symm)
      rw [up_ne _ _ h1, up_ne _ _ h2]
/-- x is taken out of its ring. -/
theorem Ring.leave {lf rt : Nat → Int} {x b l : Nat} {t : List Nat} (h : Ring lf rt (x :: b :: t)) (hnd : (x :: b :: t).Nodup) (hl : lf x = (l : Int)) :
    Ring (up lf b (l : Int)) (up rt l (b : Int)) (b :: t) ∧ rt x = (b : Int) ∧ l ∈ b :: t := by
  have hl' := h.left
  rw [hl] at hl'
  have hrt : rt x = (b : Int) := h.1
  obtain ⟨u, l', e⟩ : ∃ u l', b :: t = u ++ [l'] := ⟨_, _, (List.dropLast_concat_getLast (by simp)).symm⟩
  have el : l = l' := by
    have : (x :: b :: t).getLast (by simp) = l' := by
      simp only [e, ← List.cons_append, List.getLast_concat]
    rw [this] at hl'
    omega
  subst el
  have hlm : l ∈ b :: t := by rw [e]; simp
  refine ⟨?_, hrt, hlm⟩
  have hL : Lk lf rt (u ++ [l] ++ [x]) := by rw [← e]; exact h.2.2
  rw [List.append_assoc] at hL
  obtain ⟨hL, -⟩ := (Lk.split u l [x]).1 hL
  have hnd2 := (List.nodup_cons.1 hnd).2
  show Lk _ _ (b :: t ++ [b])
  rw [e, List.append_assoc]
  refine (Lk.split u l [b]).2 ⟨Lk.congr (fun z hz => ?_) (fun z hz => ?_) hL, up_same _ _ _, up_same _ _ _, trivial⟩
  · rw [List.dropLast_concat] at hz
    refine up_ne _ _ (fun e2 => ?_)
    subst e2
    rw [e] at hnd2
    exact (List.nodup_append.1 hnd2).2.2 _ hz _ (by simp) rfl
  · rw [← e, List.tail_cons] at hz
    refine up_ne _ _ (fun e2 => ?_)
    subst e2
    exact (List.nodup_cons.1 hnd2).1 hz
/-- Two rings are made one. -/
theorem Ring.meld {lf rt : Nat → Int} {x y a b : Nat} {s t : List Nat} (hx : Ring lf rt (x :: s)) (hy : Ring lf rt (y :: t)) (hdx : (x :: s).Nodup) (hdy : (y :: t).Nodup) (hd : ∀ z ∈ x :: s, z ∉ y :: t) (ha : lf x = (a : Int)) (hb : rt y = (b : Int)) :
    Ring (up (up lf x (y : Int)) b (a : Int)) (up (up rt y (x : Int)) a (b : Int)) (y :: x :: s ++ t) := by
  have ha' := hx.left
  rw [ha] at ha'
  have hb' := hy.right
  rw [hb] at hb'
  obtain ⟨u, a', ea⟩ : ∃ u l', x :: s = u ++ [l'] := ⟨_, _, (List.dropLast_concat_getLast (by simp)).symm⟩
  have e1 : a = a' := by
    have : (x :: s).getLast (by simp) = a' := by simp only [ea, List.getLast_concat]
    rw [this] at ha'
    omega
  subst e1
  obtain ⟨b', t', eb⟩ : ∃ r' t', t ++ [y] = r' :: t' := by
    cases t with
    | nil => exact ⟨_, _, rfl⟩
    | cons b t => exact ⟨_, _, rfl⟩
  have e2 : b = b' := by
    have : (t ++ [y]).head (by simp) = b' := by simp [eb]
    rw [this] at hb'
    omega
  subst e2
  have ham : a ∈ x :: s := by rw [ea]; simp
  have hbm : b ∈ y :: t := by
    have : b ∈ t ++ [y] := by rw [eb]; simp
    simp only [List.mem_append, List.mem_singleton] at this
    simp only [List.mem_cons]
    exact this.symm
  have hmem : ∀ z, z ∈ b :: t' ↔ z ∈ y :: t := by
    intro z
    rw [← eb]
    simp [or_comm]
  have hxy : x ≠ y := fun e => hd x (by simp) (by simp [e])
  have hya : y ≠ a := fun e => hd a ham (by simp [e])
  have hxb : x ≠ b := fun e => hd x (by simp) (by rw [e]; exact hbm)
  have hnd' : (b :: t').Nodup := by
    rw [← eb]
    have : (y :: t).Perm (t ++ [y]) := (List.perm_append_singleton y t).symm
    exact this.nodup_iff.1 hdy
  have hLy : Lk lf rt (b :: t') := by
    have h1 : Lk lf rt (y :: (t ++ [y])) := hy
    rw [eb] at h1
    exact h1.2.2
  have hLx : Lk lf rt (u ++ [a]) := by
    have h1 : Lk lf rt (x :: s ++ [x]) := hx
    rw [ea, List.append_assoc] at h1
    exact ((Lk.split u a [x]).1 h1).1
  have hLx' : Lk lf rt (x :: s) := by rw [ea]; exact hLx
  show Lk _ _ (y :: (x :: s ++ t ++ [y]))
  have q : x :: s ++ t ++ [y] = u ++ a :: b :: t' := by rw [List.append_assoc, eb, ea]; simp
  have q2 : y :: (x :: s ++ t ++ [y]) = [y] ++ x :: (s ++ t ++ [y]) := by simp
  rw [q2]
  refine (Lk.split [y] x (s ++ t ++ [y])).2 ⟨⟨?_, ?_, trivial⟩, ?_⟩
  · rw [up_ne _ _ hya, up_same]
  · rw [up_ne _ _ hxb, up_same]
  · have q3 : x :: (s ++ t ++ [y]) = u ++ a :: b :: t' := by rw [← q]; simp
    rw [q3]
    refine (Lk.split u a (b :: t')).2 ⟨?_, up_same _ _ _, up_same _ _ _, ?_⟩
    · rw [← ea]
      refine Lk.congr (fun z hz => ?_) (fun z hz => ?_) hLx'
      · have hz' : z ∈ x :: s := List.dropLast_subset _ hz
        have h1 : z ≠ a := fun e => by
          subst e
          rw [ea, List.dropLast_concat] at hz
          rw [ea] at hdx
          exact (List.nodup_append.1 hdx).2.2 _ hz _ (by simp) rfl
        have h2 : z ≠ y := fun e => hd z hz' (by simp [e])
        rw [up_ne _ _ h1, up_ne _ _ h2]
      · simp only [List.tail_cons] at hz
        have h1 : z ≠ b := fun e => hd z (List.mem_cons_of_mem _ hz) (by rw [e]; exact hbm)
        have h2 : z ≠ x := fun e => by subst e; exact (List.nodup_cons.1 hdx).1 hz
        rw [up_ne _ _ h1, up_ne _ _ h2]
    · refine Lk.congr (fun z hz => ?_) (fun z hz => ?_) hLy
      · rw [← eb, List.dropLast_concat] at hz
        have h1 : z ≠ a := fun e => hd a ham (by rw [← e]; exact List.mem_cons_of_mem _ hz)
        have h2 : z ≠ y := fun e => by subst e; exact (List.nodup_cons.1 hdy).1 hz
        rw [up_ne _ _ h1, up_ne _ _ h2]
      · simp only [List.tail_cons] at hz
        have h1 : z ≠ b := fun e => by subst e; exact (List.nodup_cons.1 hnd').1 hz
        have h2 : z ≠ x := fun e => by
          subst e
          exact hd z (by simp) ((hmem z).1 (List.mem_cons_of_mem _ hz))
        rw [up_ne _ _ h1, up_ne _ _ h2]
end Go.Proofs.Yteccpjijlkjneaa
