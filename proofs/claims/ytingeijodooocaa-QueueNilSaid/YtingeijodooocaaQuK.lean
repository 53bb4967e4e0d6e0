/- Chapter 14, plain: the reference's list: how a waiter comes in and out; tenants; the top. No program is in sight. -/
import Derived.Test.YtingeijodooocaaQuL
namespace Go.Proofs.Ytingeijodooocaa
theorem ins_gap : ∀ {w : Wt} {L : List Wt} {k : Nat}, k ≤ L.length → (∀ x ∈ L.take k, ¬ befQ w x) → (∀ x, L[k]? = some x → befQ w x) → insQ w L = L.take k ++ w :: L.drop k
  | w, [], k, hk, _, _ => by
    have : k = 0 := by simpa using hk
    subst this; rfl
  | w, x :: t, 0, _, _, h => by
    unfold insQ
    rw [if_pos (h x rfl)]; rfl
  | w, x :: t, k + 1, hk, h1, h2 => by
    unfold insQ
    rw [if_neg (h1 x (by simp)), ins_gap (k := k) (by simpa using hk) (fun y hy => h1 y (by simp [hy])) (fun y hy => h2 y (by simpa using hy))]
    rfl
theorem pw_at {r : Wt → Wt → Prop} {L : List Wt} (h : L.Pairwise r) {i j : Nat} {a b : Wt} (hij : i < j) (ha : L[i]? = some a) (hb : L[j]? = some b) : r a b := by
  obtain ⟨hi, rfl⟩ := List.getElem?_eq_some_iff.1 ha
  obtain ⟨hj, rfl⟩ := List.getElem?_eq_some_iff.1 hb
  exact List.pairwise_iff_getElem.1 h i j hi hj hij
theorem mem_take_at {α : Type} {L : List α} {i : Nat} {x : α} (h : x ∈ L.take i) : ∃ j, j < i ∧ L[j]? = some x := by
  obtain ⟨j, hj, rfl⟩ := List.mem_iff_getElem.1 h
  rw [List.length_take] at hj
  refine ⟨j, by omega, ?_⟩
  rw [List.getElem_take, List.getElem?_eq_getElem (by omega)]
theorem at_mem_take {α : Type} {L : List α} {i j : Nat} {x : α} (hj : j < i) (h : L[j]? = some x) : x ∈ L.take i := by
  refine List.mem_of_getElem? (i := j) ?_
  rw [List.getElem?_take, if_pos hj, h]
theorem ins_end {w : Wt} {L : List Wt} {k : Nat} (h : SrtQ L) (hk : k ≤ L.length) (h1 : ∀ x, 0 < k → L[k - 1]? = some x → ¬ befQ w x) (h2 : ∀ x, L[k]? = some x → befQ w x) : insQ w L = L.take k ++ w :: L.drop k := by
  refine ins_gap hk (fun x hx hb => ?_) h2
  obtain ⟨j, hj, hx⟩ := mem_take_at hx
  obtain ⟨y, hy⟩ : ∃ y, L[k - 1]? = some y := ⟨_, List.getElem?_eq_getElem (by omega)⟩
  by_cases e : j = k - 1
  · rw [← e, hx] at hy
    injection hy with hy
    exact h1 y (by omega) (by rw [← e, hx, hy]) (hy ▸ hb)
  · exact h1 y (by omega) hy (befQ_tr hb (pw_at h.pw (by omega) hx hy))
theorem del_at : ∀ {L : List Wt} {k : Nat} {x : Wt}, L.Pairwise (fun a b => a.job ≠ b.job) → L[k]? = some x → delQ x.job L = L.take k ++ L.drop (k + 1)
  | [], k, x, _, h => by simp at h
  | y :: t, 0, x, hp, h => by
    have p := List.pairwise_cons.1 hp
    obtain rfl : y = x := by simpa using h
    unfold delQ
    rw [List.filter_cons_of_neg (by simp)]
    have : t.filter (fun z => decide (z.job ≠ y.job)) = t := List.filter_eq_self.2 fun z hz => by simpa using fun e => p.1 z hz e.symm
    simpa using this
  | y :: t, k + 1, x, hp, h => by
    have p := List.pairwise_cons.1 hp
    have hx : t[k]? = some x := by simpa using h
    unfold delQ
    rw [List.filter_cons_of_pos (by simpa using p.1 x (List.mem_of_getElem? hx))]
    have := del_at p.2 hx
    unfold delQ at this
    rw [this]; rfl
theorem del_no {L : List Wt} {j : Int} (h : ∀ x ∈ L, x.job ≠ j) : delQ j L = L := List.filter_eq_self.2 fun x hx => by simpa using h x hx
/-- The tenants of a list, each once, rising. -/
structure IsTn (L : List Wt) (ks : List (List UInt8)) : Prop where
  pw : ks.Pairwise (· < ·)
  mem : ∀ k, k ∈ ks ↔ ∃ v ∈ L, v.ky = k
theorem IsTn.nil : IsTn [] [] := ⟨List.Pairwise.nil, fun k => by simp⟩
theorem rise_unique : ∀ {a b : List (List UInt8)}, a.Pairwise (· < ·) → b.Pairwise (· < ·) → (∀ k, k ∈ a ↔ k ∈ b) → a = b
  | [], [], _, _, _ => rfl
  | [], y :: b, _, _, h => by cases (h y).2 List.mem_cons_self
  | x :: a, [], _, _, h => by cases (h x).1 List.mem_cons_self
  | x :: a, y :: b, ha, hb, h => by
    have pa := List.pairwise_cons.1 ha
    have pb := List.pairwise_cons.1 hb
    have e : x = y := by
      rcases List.mem_cons.1 ((h x).1 List.mem_cons_self) with q | q
      · exact q
      · rcases List.mem_cons.1 ((h y).2 List.mem_cons_self) with r | r
        · exact r.symm
        · exact absurd (List.lt_trans (pa.1 y r) (pb.1 x q)) (lt_irr _)
    subst e
    congr 1
    refine rise_unique pa.2 pb.2 fun z => ⟨fun hz => ?_, fun hz => ?_⟩
    · rcases List.mem_cons.1 ((h z).1 (List.mem_cons_of_mem _ hz)) with q | q
      · exact absurd (q ▸ pa.1 z hz) (lt_irr _)
      · exact q
    · rcases List.mem_cons.1 ((h z).2 (List.mem_cons_of_mem _ hz)) with q | q
      · exact absurd (q ▸ pb.1 z hz) (lt_irr _)
      · exact q
theorem IsTn.unique {L : List Wt} {a b : List (List UInt8)} (h : IsTn L a) (k : IsTn L b) : a = b := rise_unique h.pw k.pw fun x => (h.mem x).trans (k.mem x).symm
theorem befQ_ky {a b : Wt} (h : befQ a b) : a.ky < b.ky ∨ a.ky = b.ky := by
  rcases h with h | ⟨h, -⟩
  · exact .inl h
  · exact .inr h
theorem IsTn.more {L : List Wt} {ks : List (List UInt8)} {i : Nat} {v : Wt} (h : SrtQ L) (hi : L[i]? = some v) (hk : IsTn (L.take i) ks) (hne : i = 0 ∨ ∃ u, L[i - 1]? = some u ∧ u.ky ≠ v.ky) : IsTn (L.take (i + 1)) (ks ++ [v.ky]) := by
  constructor
  · rw [List.pairwise_append]
    refine ⟨hk.pw, by simp, fun a ha b hb => ?_⟩
    rw [List.mem_singleton] at hb
    subst hb
    obtain ⟨y, hy, rfl⟩ := (hk.mem a).1 ha
    obtain ⟨j, hj, hy⟩ := mem_take_at hy
    rcases hne with e | ⟨u, hu, hne⟩
    · omega
    · have h1 : u.ky < v.ky := (befQ_ky (pw_at h.pw (show i - 1 < i by omega) hu hi)).resolve_right hne
      by_cases e : j = i - 1
      · rw [e, hu] at hy
        injection hy with hy
        rw [← hy]; exact h1
      · rcases befQ_ky (pw_at h.pw (show j < i - 1 by omega) hy hu) with q | q
        · exact List.lt_trans q h1
        · rw [q]; exact h1
  · intro k
    rw [List.take_add_one, hi, List.mem_append, hk.mem, List.mem_singleton]
    constructor
    · rintro (⟨y, hy, e⟩ | e)
      · exact ⟨y, List.mem_append_left _ hy, e⟩
      · exact ⟨v, by simp, e.symm⟩
    · rintro ⟨y, hy, e⟩
      rcases List.mem_append.1 hy with q | q
      · exact .inl ⟨y, q, e⟩
      · have : y = v := by simpa using q
        rw [this] at e
        exact .inr e.symm
theorem IsTn.same {L : List Wt} {ks : List (List UInt8)} {i : Nat} {u v : Wt} (hi : L[i]? = some v) (hk : IsTn (L.take i) ks) (h0 : 0 < i) (hu : L[i - 1]? = some u) (e : u.ky = v.ky) : IsTn (L.take (i + 1)) ks := by
  refine ⟨hk.pw, fun k => ?_⟩
  rw [List.take_add_one, hi, hk.mem]
  constructor
  · rintro ⟨y, hy, e⟩
    exact ⟨y, List.mem_append_left _ hy, e⟩
  · rintro ⟨y, hy, e2⟩
    rcases List.mem_append.1 hy with q | q
    · exact ⟨y, q, e2⟩
    · have : y = v := by simpa using q
      rw [this] at e2
      exact ⟨u, at_mem_take (by omega) hu, e.trans e2⟩
/-- The greatest priority. -/
def bestL (L : List Wt) : Int := L.foldl (fun b v => max b v.pri) 0
theorem bestL_take {L : List Wt} {i : Nat} {v : Wt} (h : L[i]? = some v) : bestL (L.take (i + 1)) = max (bestL (L.take i)) v.pri := by
  rw [List.take_add_one, h]
  unfold bestL
  rw [List.foldl_append]; rfl
theorem fold_max (L : List Wt) : ∀ b : Int, b ≤ L.foldl (fun b v => max b v.pri) b ∧ (∀ v ∈ L, v.pri ≤ L.foldl (fun b v => max b v.pri) b) ∧ (L.foldl (fun b v => max b v.pri) b = b ∨ ∃ v ∈ L, v.pri = L.foldl (fun b v => max b v.pri) b) := by
  induction L with
  | nil => intro b; exact ⟨Int.le_refl _, fun v hv => (by cases hv), .inl rfl⟩
  | cons x t ih =>
    intro b
    rw [List.foldl_cons]
    obtain ⟨h1, h2, h3⟩ := ih (max b x.pri)
    refine ⟨by omega, fun v hv => ?_, ?_⟩
    · rcases List.mem_cons.1 hv with q | q
      · rw [q]; omega
      · exact h2 v q
    · rcases h3 with h3 | ⟨v, hv, h3⟩
      · rw [h3]
        by_cases e : x.pri ≤ b
        · left; omega
        · right; exact ⟨x, List.mem_cons_self, by omega⟩
      · exact .inr ⟨v, List.mem_cons_of_mem _ hv, h3⟩
theorem bestL_ge (L : List Wt) : 0 ≤ bestL L := (fold_max L 0).1
theorem bestL_le {L : List Wt} {v : Wt} (h : v ∈ L) : v.pri ≤ bestL L := (fold_max L 0).2.1 v h
theorem bestL_at (L : List Wt) : bestL L = 0 ∨ ∃ v ∈ L, v.pri = bestL L := (fold_max L 0).2.2
theorem bestL_eq {L : List Wt} {b : Int} (h0 : 0 ≤ b) (h1 : ∀ v ∈ L, v.pri ≤ b) (h2 : b = 0 ∨ ∃ v ∈ L, v.pri = b) : bestL L = b := by
  rcases h2 with rfl | ⟨v, hv, rfl⟩
  · rcases bestL_at L with e | ⟨v, hv, e⟩
    · exact e
    · have := h1 v hv; have := bestL_ge L; omega
  · rcases bestL_at L with e | ⟨u, hu, e⟩
    · have := bestL_le hv; omega
    · have := bestL_le hv; have := h1 u hu; omega
/-- The priority of a tenant's first. -/
def hpri (L : List Wt) (k : List UInt8) : Int := ((lsQ k L).head?.map Wt.pri).getD 0
theorem hpri_le {L : List Wt} (h : SrtQ L) {v : Wt} (hv : v ∈ L) : v.pri ≤ hpri L v.ky := by
  have hm : v ∈ lsQ v.ky L := mem_lsQ.2 ⟨hv, rfl⟩
  unfold hpri
  have hs := h.ls v.ky
  cases e : lsQ v.ky L with
  | nil => rw [e] at hm; cases hm
  | cons x t =>
    rw [e] at hm hs
    simp only [List.head?_cons, Option.map_some, Option.getD_some]
    rcases List.mem_cons.1 hm with q | q
    · rw [q]; exact Int.le_refl _
    · have hb := (List.pairwise_cons.1 hs.pw).1 v q
      have hx : x ∈ lsQ v.ky L := by rw [e]; exact List.mem_cons_self
      have hk := (mem_lsQ.1 hx).2
      rcases hb with hb | ⟨-, hb⟩
      · rw [hk] at hb; exact absurd hb (lt_irr _)
      · omega
theorem hpri_at {L : List Wt} {k : List UInt8} (h : ∃ v ∈ L, v.ky = k) : ∃ v ∈ L, v.ky = k ∧ (lsQ k L).head? = some v ∧ hpri L k = v.pri := by
  obtain ⟨u, hu, e⟩ := h
  have hm : u ∈ lsQ k L := mem_lsQ.2 ⟨hu, e⟩
  unfold hpri
  cases e2 : lsQ k L with
  | nil => rw [e2] at hm; cases hm
  | cons x t =>
    have hx : x ∈ lsQ k L := by rw [e2]; exact List.mem_cons_self
    exact ⟨x, (mem_lsQ.1 hx).1, (mem_lsQ.1 hx).2, rfl, rfl⟩
/-- What Top finds on its way through the tenants. -/
def bestT (L : List Wt) (ts : List (List UInt8)) : Int := ts.foldl (fun b t => max b (hpri L t)) 0
theorem bestT_take {L : List Wt} {ts : List (List UInt8)} {i : Nat} {t : List UInt8} (h : ts[i]? = some t) : bestT L (ts.take (i + 1)) = max (bestT L (ts.take i)) (hpri L t) := by
  rw [List.take_add_one, h]
  unfold bestT
  rw [List.foldl_append]; rfl
theorem fold_maxT (L : List Wt) (ts : List (List UInt8)) : ∀ b : Int, b ≤ ts.foldl (fun b t => max b (hpri L t)) b ∧ (∀ v ∈ ts, hpri L v ≤ ts.foldl (fun b t => max b (hpri L t)) b) ∧ (ts.foldl (fun b t => max b (hpri L t)) b = b ∨ ∃ v ∈ ts, hpri L v = ts.foldl (fun b t => max b (hpri L t)) b) := by
  induction ts with
  | nil => intro b; exact ⟨Int.le_refl _, fun v hv => (by cases hv), .inl rfl⟩
  | cons x t ih =>
    intro b
    rw [List.foldl_cons]
    obtain ⟨h1, h2, h3⟩ := ih (max b (hpri L x))
    refine ⟨by omega, fun v hv => ?_, ?_⟩
    · rcases List.mem_cons.1 hv with q | q
      · rw [q]; omega
      · exact h2 v q
    · rcases h3 with h3 | ⟨v, hv, h3⟩
      · rw [h3]
        by_cases e : hpri L x ≤ b
        · left; omega
        · right; exact ⟨x, List.mem_cons_self, by omega⟩
      · exact .inr ⟨v, List.mem_cons_of_mem _ hv, h3⟩
theorem best_eq {L : List Wt} {ts : List (List UInt8)} (h : SrtQ L) (ht : IsTn L ts) : bestT L ts = bestL L := by
  obtain ⟨h1, h2, h3⟩ := fold_maxT L ts 0
  symm
  refine bestL_eq h1 (fun v hv => ?_) ?_
  · exact Int.le_trans (hpri_le h hv) (h2 v.ky ((ht.mem _).2 ⟨v, hv, rfl⟩))
  · rcases h3 with h3 | ⟨t, ht2, h3⟩
    · exact .inl h3
    · obtain ⟨v, hv, -, -, e⟩ := hpri_at ((ht.mem t).1 ht2)
      exact .inr ⟨v, hv, e.symm.trans h3⟩
def topT (L : List Wt) (b : Int) (ts : List (List UInt8)) : List (List UInt8) := ts.filter fun t => decide (hpri L t = b)
theorem topT_take {L : List Wt} {b : Int} {ts : List (List UInt8)} {i : Nat} {t : List UInt8} (h : ts[i]? = some t) : topT L b (ts.take (i + 1)) = if hpri L t = b then topT L b (ts.take i) ++ [t] else topT L b (ts.take i) := by
  rw [List.take_add_one, h]
  unfold topT
  rw [List.filter_append]
  by_cases e : hpri L t = b <;> simp [e]
/-- A greater one empties the list. -/
theorem topT_more {L : List Wt} {ts : List (List UInt8)} {i : Nat} {t : List UInt8} (h : ts[i]? = some t) (hb : bestT L (ts.take i) < hpri L t) : topT L (hpri L t) (ts.take (i + 1)) = [t] := by
  rw [topT_take h, if_pos rfl]
  have : topT L (hpri L t) (ts.take i) = [] := by
    unfold topT
    rw [List.filter_eq_nil_iff]
    intro u hu
    have := (fold_maxT L (ts.take i) 0).2.1 u hu
    have h2 : hpri L u ≤ bestT L (ts.take i) := this
    simp
    omega
  rw [this]; rfl
end Go.Proofs.Ytingeijodooocaa
