/- Alarms in a heap, as plain lists: up, down, what they keep, and what they make. No program is in sight. -/
import Derived.Laws.Rows
import Derived.Sort.Walk0
import Derived.WideShapes
namespace Go.Proofs.Ytkplhobiciddoaa
/-- An alarm: its name and its tick. -/
abbrev Al := ByteArray × Int
def ltS (a b : ByteArray) : Bool := Op.bytesLess a.toList b.toList
/-- The order of alarms. -/
def ltA (x y : Al) : Bool := decide (x.2 < y.2) || (decide (x.2 = y.2) && ltS x.1 y.1)
theorem ltS_irr (a : ByteArray) : ltS a a = false := by simp [ltS, bytesLess_eq, List.lt_irrefl]
theorem ltS_tr {a b c : ByteArray} (h : ltS a b = true) (k : ltS b c = true) : ltS a c = true := by
  simp only [ltS, bytesLess_eq, decide_eq_true_eq] at *
  exact List.lt_trans h k
theorem ltS_tri {a b : ByteArray} (h : ltS a b = false) (k : ltS b a = false) : a = b := by
  simp only [ltS, bytesLess_eq, decide_eq_false_iff_not] at *
  have := List.le_antisymm (List.not_lt.1 k) (List.not_lt.1 h)
  rw [Go.Lib.toList_data, Go.Lib.toList_data] at this
  exact Go.WideShapes.bytes_inj this
theorem ltA_iff (x y : Al) : ltA x y = true ↔ x.2 < y.2 ∨ (x.2 = y.2 ∧ ltS x.1 y.1 = true) := by simp [ltA]
theorem ltA_irr (x : Al) : ltA x x = false := by
  cases h : ltA x x
  · rfl
  · rw [ltA_iff, ltS_irr] at h
    rcases h with h | ⟨-, h⟩
    · omega
    · cases h
theorem ltA_tr {x y z : Al} (h : ltA x y = true) (k : ltA y z = true) : ltA x z = true := by
  rw [ltA_iff] at *
  rcases h with h | ⟨h, h'⟩ <;> rcases k with k | ⟨k, k'⟩
  · left; omega
  · left; omega
  · left; omega
  · right; exact ⟨by omega, ltS_tr h' k'⟩
theorem ltA_tri {x y : Al} (h : ltA x y = false) (k : ltA y x = false) : x = y := by
  have h1 : ¬ ltA x y = true := by rw [h]; decide
  have h2 : ¬ ltA y x = true := by rw [k]; decide
  rw [ltA_iff] at h1 h2
  have e : x.2 = y.2 := by omega
  have e1 : ltS x.1 y.1 = false := by
    cases h : ltS x.1 y.1
    · rfl
    · exact absurd (.inr ⟨e, h⟩) h1
  have e2 : ltS y.1 x.1 = false := by
    cases h : ltS y.1 x.1
    · rfl
    · exact absurd (.inr ⟨e.symm, h⟩) h2
  exact Prod.ext (ltS_tri e1 e2) e
theorem ltA_asy {x y : Al} (h : ltA x y = true) : ltA y x = false := by
  cases k : ltA y x
  · rfl
  · have := ltA_tr h k
    rw [ltA_irr] at this
    cases this
/-- 'Not less' goes on. -/
theorem ltA_ge {x y z : Al} (h : ltA x y = false) (k : ltA y z = false) : ltA x z = false := by
  cases e : ltA x z
  · rfl
  · cases e2 : ltA y x
    · have := ltA_tri h e2
      subst this
      rw [k] at e; cases e
    · have := ltA_tr e2 e
      rw [k] at this; cases this
/-- The alarm at a place. -/
def el (l : List Al) (i : Nat) : Al := l.getD i (ByteArray.empty, 0)
theorem el_eq {l : List Al} {i : Nat} (h : i < l.length) : el l i = l[i] := by simp [el, h]
/-- Two places change. -/
def sw (l : List Al) (i j : Nat) : List Al := (l.set i (el l j)).set j (el l i)
@[simp] theorem sw_length (l : List Al) (i j : Nat) : (sw l i j).length = l.length := by simp [sw]
theorem el_set {l : List Al} {i : Nat} (h : i < l.length) (x : Al) (k : Nat) : el (l.set i x) k = if k = i then x else el l k := by
  unfold el
  rw [List.getD_eq_getElem?_getD, List.getD_eq_getElem?_getD]
  split
  · rename_i e; subst e; simp [h]
  · rename_i e; rw [List.getElem?_set_ne (Ne.symm e)]
theorem el_sw {l : List Al} {i j : Nat} (hi : i < l.length) (hj : j < l.length) (k : Nat) : el (sw l i j) k = if k = j then el l i else if k = i then el l j else el l k := by
  unfold sw
  rw [el_set (by simpa using hj), el_set hi]
theorem perm_set {l : List Al} : ∀ {i j : Nat} (hi : i < l.length) (hj : j < l.length), ((l.set i l[j]).set j l[i]).Perm l := by
  intro i j hi hj
  exact List.set_set_perm hi hj
theorem sw_perm {l : List Al} {i j : Nat} (hi : i < l.length) (hj : j < l.length) : (sw l i j).Perm l := by
  unfold sw
  rw [el_eq hi, el_eq hj]
  exact perm_set hi hj
/-- What 'up' makes. -/
def upL (l : List Al) (j : Nat) : List Al :=
  if j = 0 then l else if ltA (el l j) (el l ((j - 1) / 2)) = true then upL (sw l ((j - 1) / 2) j) ((j - 1) / 2) else l
termination_by j
decreasing_by omega
/-- The lesser child. -/
def kid (l : List Al) (i n : Nat) : Nat := if 2 * i + 2 < n ∧ ltA (el l (2 * i + 2)) (el l (2 * i + 1)) = true then 2 * i + 2 else 2 * i + 1
theorem kid_or (l : List Al) (i n : Nat) : kid l i n = 2 * i + 1 ∨ (kid l i n = 2 * i + 2 ∧ 2 * i + 2 < n) := by
  unfold kid
  split
  · exact .inr ⟨rfl, by rename_i h; exact h.1⟩
  · exact .inl rfl
theorem kid_lt {l : List Al} {i n : Nat} (h : 2 * i + 1 < n) : i < kid l i n ∧ kid l i n < n := by
  rcases kid_or l i n with e | ⟨e, _⟩ <;> omega
theorem kid_par {l : List Al} {i n : Nat} : (kid l i n - 1) / 2 = i := by
  rcases kid_or l i n with e | ⟨e, _⟩ <;> omega
/-- No child is less than the lesser one. -/
theorem kid_least {l : List Al} {i n k : Nat} (hk : 0 < k) (hn : k < n) (hp : (k - 1) / 2 = i) : ltA (el l k) (el l (kid l i n)) = false := by
  have : k = 2 * i + 1 ∨ k = 2 * i + 2 := by omega
  unfold kid
  split
  · rename_i h
    rcases this with rfl | rfl
    · exact ltA_asy h.2
    · exact ltA_irr _
  · rename_i h
    rcases this with rfl | rfl
    · exact ltA_irr _
    · cases e : ltA (el l (2 * i + 2)) (el l (2 * i + 1))
      · rfl
      · exact absurd ⟨hn, e⟩ h
/-- What 'down' makes, and the place where it ends. -/
def downL (l : List Al) (i n : Nat) : List Al × Nat :=
  if _h : 2 * i + 1 < n then
    if ltA (el l (kid l i n)) (el l i) = true then downL (sw l i (kid l i n)) (kid l i n) n else (l, i)
  else (l, i)
termination_by n - i
decreasing_by have := @kid_lt l i n _h; omega
theorem upL_perm (l : List Al) (j : Nat) (hj : j < l.length) : (upL l j).Perm l := by
  induction j using Nat.strongRecOn generalizing l with
  | _ j ih =>
    unfold upL
    split
    · exact .refl _
    · split
      · exact (ih ((j - 1) / 2) (by omega) _ (by rw [sw_length]; omega)).trans (sw_perm (by omega) hj)
      · exact .refl _
theorem downL_perm (l : List Al) (i n : Nat) (hn : n ≤ l.length) : (downL l i n).1.Perm l := by
  generalize hm : n - i = m
  induction m using Nat.strongRecOn generalizing l i with
  | _ m ih =>
    unfold downL
    split
    · rename_i h
      have hk := @kid_lt l i n h
      split
      · exact (ih (n - kid l i n) (by omega) _ _ (by rw [sw_length]; omega) rfl).trans (sw_perm (by omega) (by omega))
      · exact .refl _
    · exact .refl _
theorem downL_above (l : List Al) (i n : Nat) (hn : n ≤ l.length) (k : Nat) (hk : n ≤ k) : el (downL l i n).1 k = el l k := by
  generalize hm : n - i = m
  induction m using Nat.strongRecOn generalizing l i with
  | _ m ih =>
    unfold downL
    split
    · rename_i h
      have hk' := @kid_lt l i n h
      split
      · rw [ih (n - kid l i n) (by omega) _ _ (by rw [sw_length]; omega) rfl, el_sw (by omega) (by omega), if_neg (by omega), if_neg (by omega)]
      · rfl
    · rfl
theorem upL_above (l : List Al) (j : Nat) (hj : j < l.length) (k : Nat) (hk : j < k) : el (upL l j) k = el l k := by
  induction j using Nat.strongRecOn generalizing l with
  | _ j ih =>
    unfold upL
    split
    · rfl
    · split
      · rw [ih ((j - 1) / 2) (by omega) _ (by rw [sw_length]; omega) (by omega), el_sw (by omega) hj, if_neg (by omega), if_neg (by omega)]
      · rfl
theorem downL_ge (l : List Al) (i n : Nat) : i ≤ (downL l i n).2 := by
  generalize hm : n - i = m
  induction m using Nat.strongRecOn generalizing l i with
  | _ m ih =>
    unfold downL
    split
    · rename_i h
      have hk' := @kid_lt l i n h
      split
      · exact Nat.le_trans (Nat.le_of_lt hk'.1) (ih (n - kid l i n) (by omega) _ _ rfl)
      · exact Nat.le_refl _
    · exact Nat.le_refl _
/-- The first n are a heap. -/
def Hp (l : List Al) (n : Nat) : Prop := ∀ k, 0 < k → k < n → ltA (el l k) (el l ((k - 1) / 2)) = false
/-- A heap but for place j, that may be too small. -/
def UpI (l : List Al) (n j : Nat) : Prop := (∀ k, 0 < k → k < n → k ≠ j → ltA (el l k) (el l ((k - 1) / 2)) = false) ∧ ∀ k, 0 < k → k < n → (k - 1) / 2 = j → 0 < j → ltA (el l k) (el l ((j - 1) / 2)) = false
/-- A heap but for place i, that may be too great or too small. -/
def DnI (l : List Al) (n i : Nat) : Prop := (∀ k, 0 < k → k < n → k ≠ i → (k - 1) / 2 ≠ i → ltA (el l k) (el l ((k - 1) / 2)) = false) ∧ ∀ k, 0 < k → k < n → (k - 1) / 2 = i → 0 < i → ltA (el l k) (el l ((i - 1) / 2)) = false
theorem upL_hp (l : List Al) (n j : Nat) (hj : j < n) (hn : n ≤ l.length) (h : UpI l n j) : Hp (upL l j) n := by
  induction j using Nat.strongRecOn generalizing l with
  | _ j ih =>
    unfold upL
    split
    · rename_i e; subst e
      exact fun k h0 hk => h.1 k h0 hk (by omega)
    · rename_i hj0
      split
      · rename_i hlt
        have hp : (j - 1) / 2 < j := by omega
        refine ih ((j - 1) / 2) hp _ (by omega) (by rw [sw_length]; omega) ⟨fun k h0 hk hne => ?_, fun k h0 hk hpk h0p => ?_⟩
        · rw [el_sw (by omega) (by omega), el_sw (by omega) (by omega)]
          by_cases e : k = j
          · subst e
            rw [if_pos rfl, if_neg (by omega), if_pos rfl]
            exact ltA_asy hlt
          · rw [if_neg e, if_neg hne]
            have hkj := h.1 k h0 hk e
            by_cases e1 : (k - 1) / 2 = j
            · rw [if_pos e1]
              exact h.2 k h0 hk e1 (by omega)
            · rw [if_neg e1]
              by_cases e2 : (k - 1) / 2 = (j - 1) / 2
              · rw [if_pos e2]
                rw [e2] at hkj
                exact ltA_ge hkj (ltA_asy hlt)
              · rw [if_neg e2]; exact hkj
        · rw [el_sw (by omega) (by omega), el_sw (by omega) (by omega)]
          rw [if_neg (show ¬ ((j - 1) / 2 - 1) / 2 = j by omega), if_neg (show ¬ ((j - 1) / 2 - 1) / 2 = (j - 1) / 2 by omega)]
          have hpp := h.1 ((j - 1) / 2) h0p (by omega) (by omega)
          by_cases e : k = j
          · rw [if_pos e]; exact hpp
          · rw [if_neg e, if_neg (by omega)]
            have hkj := h.1 k h0 hk e
            rw [hpk] at hkj
            exact ltA_ge hkj hpp
      · rename_i hlt
        intro k h0 hk
        by_cases e : k = j
        · subst e
          cases e2 : ltA (el l k) (el l ((k - 1) / 2))
          · rfl
          · exact absurd e2 hlt
        · exact h.1 k h0 hk e
/-- Behind one step down the place is not too small. -/
theorem dn_step {l : List Al} {n i : Nat} (hn : n ≤ l.length) (h1 : 2 * i + 1 < n) (h : DnI l n i) (hlt : ltA (el l (kid l i n)) (el l i) = true) :
    (∀ k, 0 < k → k < n → (k - 1) / 2 ≠ kid l i n → ltA (el (sw l i (kid l i n)) k) (el (sw l i (kid l i n)) ((k - 1) / 2)) = false) ∧ DnI (sw l i (kid l i n)) n (kid l i n) := by
  have hk' := @kid_lt l i n h1
  have hpj := @kid_par l i n
  have hle := fun k h0 hk hp => @kid_least l i n k h0 hk hp
  generalize kid l i n = j at *
  have A : ∀ k, 0 < k → k < n → (k - 1) / 2 ≠ j → ltA (el (sw l i j) k) (el (sw l i j) ((k - 1) / 2)) = false := fun k h0 hk hpk => by
    rw [el_sw (by omega) (by omega), el_sw (by omega) (by omega), if_neg hpk]
    by_cases e : k = j
    · subst e
      rw [if_pos rfl, if_pos hpj]
      exact ltA_asy hlt
    · rw [if_neg e]
      by_cases e1 : k = i
      · subst e1
        rw [if_pos rfl, if_neg (by omega)]
        exact h.2 j (by omega) hk'.2 hpj h0
      · rw [if_neg e1]
        by_cases e2 : (k - 1) / 2 = i
        · rw [if_pos e2]
          exact hle k h0 hk e2
        · rw [if_neg e2]
          exact h.1 k h0 hk e1 e2
  refine ⟨A, fun k h0 hk _ hpk => A k h0 hk hpk, fun k h0 hk hpk _ => ?_⟩
  rw [el_sw (by omega) (by omega), el_sw (by omega) (by omega), if_neg (by omega), if_neg (by omega), hpj, if_neg (by omega), if_pos rfl]
  have := h.1 k h0 hk (by omega) (by omega)
  rw [hpk] at this
  exact this
theorem dn_hp (l : List Al) (n i : Nat) (hn : n ≤ l.length) (h : DnI l n i) (h' : ∀ k, 0 < k → k < n → (k - 1) / 2 ≠ i → ltA (el l k) (el l ((k - 1) / 2)) = false) : Hp (downL l i n).1 n := by
  generalize hm : n - i = m
  induction m using Nat.strongRecOn generalizing l i with
  | _ m ih =>
    unfold downL
    split
    · rename_i h1
      have hk' := @kid_lt l i n h1
      split
      · rename_i hlt
        obtain ⟨hA, hB⟩ := dn_step hn h1 h hlt
        exact ih (n - kid l i n) (by omega) _ _ (by rw [sw_length]; omega) hB hA rfl
      · rename_i hlt
        have hlt' : ltA (el l (kid l i n)) (el l i) = false := by cases e : ltA (el l (kid l i n)) (el l i); rfl; exact absurd e hlt
        intro k h0 hk
        by_cases e : (k - 1) / 2 = i
        · rw [e]
          exact ltA_ge (kid_least h0 hk e) hlt'
        · exact h' k h0 hk e
    · intro k h0 hk
      exact h' k h0 hk (by omega)
/-- Down: where it has moved, a heap; where not, all is as it was, and at most place i is too small. -/
theorem downL_law (l : List Al) (n i : Nat) (hn : n ≤ l.length) (h : DnI l n i) :
    (i < (downL l i n).2 → Hp (downL l i n).1 n) ∧ ((downL l i n).2 ≤ i → (downL l i n).1 = l ∧ UpI l n i) := by
  unfold downL
  split
  · rename_i h1
    have hk' := @kid_lt l i n h1
    split
    · rename_i hlt
      obtain ⟨hA, hB⟩ := dn_step hn h1 h hlt
      have := downL_ge (sw l i (kid l i n)) (kid l i n) n
      exact ⟨fun _ => dn_hp _ _ _ (by rw [sw_length]; omega) hB hA, fun h => by omega⟩
    · rename_i hlt
      have hlt' : ltA (el l (kid l i n)) (el l i) = false := by cases e : ltA (el l (kid l i n)) (el l i); rfl; exact absurd e hlt
      refine ⟨fun h => absurd h (Nat.lt_irrefl _), fun _ => ⟨rfl, fun k h0 hk hne => ?_, h.2⟩⟩
      by_cases e : (k - 1) / 2 = i
      · rw [e]
        exact ltA_ge (kid_least h0 hk e) hlt'
      · exact h.1 k h0 hk hne e
  · refine ⟨fun h => absurd h (Nat.lt_irrefl _), fun _ => ⟨rfl, fun k h0 hk hne => h.1 k h0 hk hne (by omega), h.2⟩⟩
/-- The root is the least. -/
theorem Hp.root {l : List Al} {n : Nat} (h : Hp l n) (k : Nat) (hk : k < n) : ltA (el l k) (el l 0) = false := by
  induction k using Nat.strongRecOn with
  | _ k ih =>
    by_cases e : k = 0
    · subst e; exact ltA_irr _
    · exact ltA_ge (h k (by omega) hk) (ih ((k - 1) / 2) (by omega) (by omega))
/-- Behind a change at place i. -/
theorem Hp.changed {l l' : List Al} {n i : Nat} (h : Hp l n) (he : ∀ k, k < n → k ≠ i → el l' k = el l k) (hi : i < n) : DnI l' n i := by
  refine ⟨fun k h0 hk h1 h2 => ?_, fun k h0 hk h1 h2 => ?_⟩
  · rw [he k hk h1, he _ (by omega) h2]; exact h k h0 hk
  · rw [he k hk (by omega), he _ (by omega) (by omega)]
    have a := h k h0 hk
    rw [h1] at a
    exact ltA_ge a (h i h2 hi)
theorem Hp.less {l : List Al} {n m : Nat} (h : Hp l n) (hm : m ≤ n) : Hp l m := fun k h0 hk => h k h0 (by omega)
theorem el_append_left {l l' : List Al} {k : Nat} (h : k < l.length) : el (l ++ l') k = el l k := by
  unfold el
  rw [List.getD_eq_getElem?_getD, List.getD_eq_getElem?_getD, List.getElem?_append_left h]
theorem el_take {l : List Al} {n k : Nat} (h : k < n) : el (l.take n) k = el l k := by
  unfold el
  rw [List.getD_eq_getElem?_getD, List.getD_eq_getElem?_getD, List.getElem?_take, if_pos h]
/-- heap.Fix. -/
def fixL (l : List Al) (i : Nat) : List Al := if i < (downL l i l.length).2 then (downL l i l.length).1 else upL (downL l i l.length).1 i
theorem fixL_hp {l : List Al} {i : Nat} (hi : i < l.length) (h : DnI l l.length i) : Hp (fixL l i) l.length ∧ (fixL l i).Perm l := by
  have hl := downL_law l l.length i (Nat.le_refl _) h
  unfold fixL
  split
  · rename_i h1
    exact ⟨hl.1 h1, downL_perm _ _ _ (Nat.le_refl _)⟩
  · rename_i h1
    obtain ⟨e, hu⟩ := hl.2 (by omega)
    rw [e]
    exact ⟨upL_hp _ _ _ hi (Nat.le_refl _) hu, upL_perm _ _ hi⟩
theorem upL_length {l : List Al} {j : Nat} (hj : j < l.length) : (upL l j).length = l.length := (upL_perm l j hj).length_eq
theorem downL_length {l : List Al} {i n : Nat} (hn : n ≤ l.length) : (downL l i n).1.length = l.length := (downL_perm l i n hn).length_eq
/-- heap.Push. -/
def pushL (l : List Al) (x : Al) : List Al := upL (l ++ [x]) l.length
theorem pushL_hp {l : List Al} {x : Al} (h : Hp l l.length) : Hp (pushL l x) (l.length + 1) ∧ (pushL l x).Perm (l ++ [x]) := by
  refine ⟨upL_hp _ _ _ (by omega) (by simp) ⟨fun k h0 hk hne => ?_, fun k h0 hk hp _ => by omega⟩, upL_perm _ _ (by simp)⟩
  rw [el_append_left (by omega), el_append_left (by omega)]
  exact h k h0 (by omega)
/-- The first steps of heap.Remove: what stands at the end is taken away last. -/
def outL (l : List Al) (i : Nat) : List Al :=
  if i + 1 = l.length then l
  else if i < (downL (sw l i (l.length - 1)) i (l.length - 1)).2 then (downL (sw l i (l.length - 1)) i (l.length - 1)).1
  else upL (downL (sw l i (l.length - 1)) i (l.length - 1)).1 i
theorem outL_law {l : List Al} {i : Nat} (hi : i < l.length) (h : Hp l l.length) :
    Hp (outL l i) (l.length - 1) ∧ (outL l i).Perm l ∧ el (outL l i) (l.length - 1) = el l i := by
  unfold outL
  split
  · rename_i e
    exact ⟨h.less (by omega), .refl _, by rw [← e]; simp⟩
  · rename_i e
    have hd : DnI (sw l i (l.length - 1)) (l.length - 1) i := (h.less (by omega)).changed (fun k hk hne => by rw [el_sw hi (by omega), if_neg (by omega), if_neg hne]) (by omega)
    have hl := downL_law _ (l.length - 1) i (by rw [sw_length]; omega) hd
    have hlast : el (sw l i (l.length - 1)) (l.length - 1) = el l i := by rw [el_sw hi (by omega), if_pos rfl]
    split
    · rename_i h1
      exact ⟨hl.1 h1, (downL_perm _ _ _ (by rw [sw_length]; omega)).trans (sw_perm hi (by omega)), by rw [downL_above _ _ _ (by rw [sw_length]; omega) _ (Nat.le_refl _), hlast]⟩
    · rename_i h1
      obtain ⟨e2, hu⟩ := hl.2 (by omega)
      rw [e2]
      exact ⟨upL_hp _ _ _ (by omega) (by rw [sw_length]; omega) hu, (upL_perm _ _ (by rw [sw_length]; omega)).trans (sw_perm hi (by omega)), by rw [upL_above _ _ (by rw [sw_length]; omega) _ (by omega), hlast]⟩
/-- heap.Pop: down from the root, no 'up' behind it. -/
def popL (l : List Al) : List Al := (downL (sw l 0 (l.length - 1)) 0 (l.length - 1)).1
theorem popL_law {l : List Al} (hi : 0 < l.length) (h : Hp l l.length) :
    Hp (popL l) (l.length - 1) ∧ (popL l).Perm l ∧ el (popL l) (l.length - 1) = el l 0 := by
  have hp : (popL l).Perm l := (downL_perm _ _ _ (by rw [sw_length]; omega)).trans (sw_perm hi (by omega))
  have hlast : el (popL l) (l.length - 1) = el l 0 := by
    unfold popL
    rw [downL_above _ _ _ (by rw [sw_length]; omega) _ (Nat.le_refl _), el_sw hi (by omega), if_pos rfl]
  refine ⟨?_, hp, hlast⟩
  by_cases h1 : l.length = 1
  · intro k h0 hk; omega
  · have hd : DnI (sw l 0 (l.length - 1)) (l.length - 1) 0 := (h.less (by omega)).changed (fun k hk hne => by rw [el_sw hi (by omega), if_neg (by omega), if_neg hne]) (by omega)
    exact dn_hp _ _ _ (by rw [sw_length]; omega) hd (fun k h0 hk hp => hd.1 k h0 hk (by omega) hp)
/-- What is left and what is taken, of a list whose last is taken. -/
theorem take_last {l : List Al} (h : 0 < l.length) : l.take (l.length - 1) ++ [el l (l.length - 1)] = l := by
  rw [el_eq (by omega), List.take_append_getElem (by omega)]
  have : l.length - 1 + 1 = l.length := by omega
  rw [this, List.take_length]
end Go.Proofs.Ytkplhobiciddoaa
