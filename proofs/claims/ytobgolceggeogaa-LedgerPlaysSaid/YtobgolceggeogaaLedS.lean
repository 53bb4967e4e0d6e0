/- Plain laws of chapter 13's sums: what gathered adds up, entry by entry; what Take and Give ask of each account. No program is in sight. -/
import Derived.Test.YtobgolceggeogaaLed
namespace Go.Proofs.Ytobgolceggeogaa
/-- Each amount is within 0 and one above the limit. -/
def ok2 (x : Int) : Prop := 0 ≤ x ∧ x ≤ 1099511627777
def SumsOk (S : Sums) : Prop := ∀ k v, S k = some v → ok2 v.1 ∧ ok2 v.2.1 ∧ ok2 v.2.2.1 ∧ ok2 v.2.2.2
theorem sumsOk_none : SumsOk noA := fun k v h => by cases h
theorem cap1_ok {s x : Int} (hs : ok2 s) (hx : 0 ≤ x) : ok2 (cap1 (s + x)) := by
  unfold ok2 cap1 at *; omega
theorem SumsOk.getD {S : Sums} (h : SumsOk S) (k : List UInt8) : ok2 ((S k).getD zeroV).1 ∧ ok2 ((S k).getD zeroV).2.1 ∧ ok2 ((S k).getD zeroV).2.2.1 ∧ ok2 ((S k).getD zeroV).2.2.2 := by
  cases hS : S k with
  | none => simp [zeroV, ok2]
  | some v => exact h k v hS
theorem SumsOk.step {S : Sums} (h : SumsOk S) (e : Ent) (he : okV e.2 = true) : SumsOk (sumStep S e) := by
  intro k v hk
  obtain ⟨h0, h1, h2, h3⟩ := (okV_iff _).1 he
  obtain ⟨g0, g1, g2, g3⟩ := h.getD (nm e)
  unfold sumStep at hk
  by_cases e1 : k = nm e
  · subst e1
    rw [putA_same] at hk
    cases hk
    exact ⟨cap1_ok g0 h0.1, cap1_ok g1 h1.1, cap1_ok g2 h2.1, cap1_ok g3 h3.1⟩
  · rw [putA_other _ _ e1] at hk
    exact h k v hk
theorem sumsOf_take {l : List Ent} {k : Nat} (h : k < l.length) : sumsOf (l.take (k + 1)) = sumStep (sumsOf (l.take k)) l[k] := by
  unfold sumsOf
  rw [List.take_add_one, List.getElem?_eq_getElem h, Option.toList_some, List.foldl_append]
  rfl
theorem sumsOk_of : ∀ (l : List Ent) (S : Sums), SumsOk S → l.all (fun e => okV e.2) = true → SumsOk (l.foldl sumStep S)
  | [], _, h, _ => h
  | e :: l, S, h, ha => by
    simp only [List.all_cons, Bool.and_eq_true] at ha
    exact sumsOk_of l _ (h.step e ha.1) ha.2
theorem sumsOf_ok {l : List Ent} (ha : l.all (fun e => okV e.2) = true) : SumsOk (sumsOf l) := sumsOk_of l _ sumsOk_none ha
theorem all_take {p : Ent → Bool} {l : List Ent} (h : l.all p = true) (k : Nat) : (l.take k).all p = true := by
  rw [List.all_eq_true] at h ⊢
  exact fun x hx => h x (List.mem_of_mem_take hx)
/-- Which names have a sum: those of the entries. -/
theorem sums_key_go : ∀ (l : List Ent) (S : Sums) (k : List UInt8), ((l.foldl sumStep S) k).isSome = ((S k).isSome || l.any (fun e => decide (nm e = k)))
  | [], S, k => by simp
  | e :: l, S, k => by
    rw [List.foldl_cons, sums_key_go l, List.any_cons]
    by_cases h : k = nm e
    · subst h; simp [sumStep, putA_same]
    · rw [show (sumStep S e) k = S k from putA_other _ _ h]
      simp [Ne.symm h]
theorem sums_key (l : List Ent) (k : List UInt8) : (sumsOf l k).isSome = l.any (fun e => decide (nm e = k)) := by
  unfold sumsOf
  rw [sums_key_go]
  simp [noA]
theorem sums_mem {l : List Ent} {e : Ent} (h : e ∈ l) : (sumsOf l (nm e)).isSome = true := by
  rw [sums_key, List.any_eq_true]
  exact ⟨e, h, by simp⟩
theorem sums_from {l : List Ent} {k : List UInt8} {v : V} (h : sumsOf l k = some v) : ∃ e ∈ l, nm e = k := by
  have := sums_key l k
  rw [h] at this
  obtain ⟨e, he, hk⟩ := List.any_eq_true.1 this.symm
  exact ⟨e, he, by simpa using hk⟩
theorem all_keys {l : List Ent} {p : List UInt8 → Bool} (h : ∀ k, (sumsOf l k).isSome = true → p k = true) : l.all (fun e => p (nm e)) = true :=
  List.all_eq_true.2 fun _ he => h _ (sums_mem he)
theorem keys_not {l : List Ent} {p : List UInt8 → Bool} {k : List UInt8} {v : V} (hk : sumsOf l k = some v) (hp : p k = false) : l.all (fun e => p (nm e)) = false := by
  obtain ⟨e, he, rfl⟩ := sums_from hk
  rw [List.all_eq_false]
  exact ⟨e, he, by simp [hp]⟩
/-- Each name that has a sum has an account, where gathered says OK. -/
theorem gath_acct {A : Acc} {l : List Ent} (h : gathE A l = 0) {k : List UInt8} {v : V} (hk : sumsOf l k = some v) : ∃ a, A k = some a := by
  obtain ⟨e, he, rfl⟩ := sums_from hk
  unfold gathE at h
  split at h
  · split at h
    · rename_i h2
      have := List.all_eq_true.1 h2 e he
      exact Option.isSome_iff_exists.1 this
    · omega
  · omega
theorem gath_form {A : Acc} {l : List Ent} (h : gathE A l = 0) : l.all (fun e => okV e.2) = true := by
  unfold gathE at h
  split at h
  · assumption
  · omega
/-- The accounts, where some sums are still to come. -/
def partA (f : Acct → V → Acct) (A : Acc) (S : Sums) (left : List UInt8 → Bool) : Acc := fun k => if left k then A k else match S k with | some s => (A k).map (fun a => f a s) | none => A k
def tookOf (a : Acct) (s : V) : Acct := (a.1, addV a.2 s)
def gaveOf (a : Acct) (s : V) : Acct := (a.1, subV a.2 s)
theorem partA_start (f : Acct → V → Acct) (A : Acc) (S : Sums) : partA f A S (fun k => (S k).isSome) = A := by
  funext k
  unfold partA
  cases hS : S k <;> simp [hS]
theorem partA_take (A : Acc) (S : Sums) {left : List UInt8 → Bool} (h : ∀ k, left k = false) : partA tookOf A S left = takeA A S := by
  funext k
  simp only [partA, takeA, h k, tookOf]
  cases S k <;> rfl
theorem partA_give (A : Acc) (S : Sums) {left : List UInt8 → Bool} (h : ∀ k, left k = false) : partA gaveOf A S left = giveA A S := by
  funext k
  simp only [partA, giveA, h k, gaveOf]
  cases S k <;> rfl
theorem partA_left {f : Acct → V → Acct} {A : Acc} {S : Sums} {left : List UInt8 → Bool} {k : List UInt8} (h : left k = true) : partA f A S left k = A k := by simp [partA, h]
theorem partA_step {f : Acct → V → Acct} {A : Acc} {S : Sums} {left : List UInt8 → Bool} {k : List UInt8} {a : Acct} {s : V} (hS : S k = some s) (hA : A k = some a) :
    putA (partA f A S left) k (f a s) = partA f A S (fun l => left l && !decide (l = k)) := by
  funext j
  by_cases e : j = k
  · subst e
    simp [putA_same, partA, hS, hA]
  · rw [putA_other _ _ e]
    simp [partA, e]
/-- Take. -/
theorem takeE_form {A : Acc} {l : List Ent} {q : Int} (h : gathE A l = q) (hq : q ≠ 0) : takeE A l = q ∧ takeR A l = A := by
  have : takeE A l = q := by simp [takeE, h, hq]
  exact ⟨this, by simp [takeR, this, hq]⟩
theorem giveE_form {A : Acc} {l : List Ent} {q : Int} (h : gathE A l = q) (hq : q ≠ 0) : giveE A l = q ∧ giveR A l = A := by
  have : giveE A l = q := by simp [giveE, h, hq]
  exact ⟨this, by simp [giveR, this, hq]⟩
theorem takeE_not {A : Acc} {l : List Ent} (h : gathE A l = 0) {k : List UInt8} {v : V} (hk : sumsOf l k = some v) (hp : takeFits A (sumsOf l) k = false) : takeE A l = 9 ∧ takeR A l = A := by
  have : takeE A l = 9 := by simp [takeE, h, keys_not (p := takeFits A (sumsOf l)) hk hp]
  exact ⟨this, by simp [takeR, this]⟩
theorem giveE_not {A : Acc} {l : List Ent} (h : gathE A l = 0) {k : List UInt8} {v : V} (hk : sumsOf l k = some v) (hp : giveFits A (sumsOf l) k = false) : giveE A l = 2 ∧ giveR A l = A := by
  have : giveE A l = 2 := by simp [giveE, h, keys_not (p := giveFits A (sumsOf l)) hk hp]
  exact ⟨this, by simp [giveR, this]⟩
theorem takeE_all {A : Acc} {l : List Ent} (h : gathE A l = 0) (hp : ∀ k, (sumsOf l k).isSome = true → takeFits A (sumsOf l) k = true) : takeE A l = 0 ∧ takeR A l = takeA A (sumsOf l) := by
  have : takeE A l = 0 := by simp [takeE, h, all_keys (p := takeFits A (sumsOf l)) hp]
  exact ⟨this, by simp [takeR, this]⟩
theorem giveE_all {A : Acc} {l : List Ent} (h : gathE A l = 0) (hp : ∀ k, (sumsOf l k).isSome = true → giveFits A (sumsOf l) k = true) : giveE A l = 0 ∧ giveR A l = giveA A (sumsOf l) := by
  have : giveE A l = 0 := by simp [giveE, h, all_keys (p := giveFits A (sumsOf l)) hp]
  exact ⟨this, by simp [giveR, this]⟩
theorem okV_add {u s l : V} (hu : okV u = true) (hs : ok2 s.1 ∧ ok2 s.2.1 ∧ ok2 s.2.2.1 ∧ ok2 s.2.2.2) (hl : okV l = true) (hf : fitsV (addV u s) l = true) : okV (addV u s) = true := by
  rw [okV_iff] at hu hl ⊢
  obtain ⟨u0, u1, u2, u3⟩ := hu
  obtain ⟨l0, l1, l2, l3⟩ := hl
  obtain ⟨s0, s1, s2, s3⟩ := hs
  unfold ok2 at s0 s1 s2 s3
  unfold fitsV fitsB at hf
  have hf := of_decide_eq_true hf
  simp only [addV] at hf ⊢
  omega
end Go.Proofs.Ytobgolceggeogaa
