/- Chapter 20, plain law: numbers, vectors and lists of numbers, as words say them. -/
import Derived.Test.YtidcbcljeofooaaGreatDoorRunP
import Derived.Lib.SplitLaws
import Derived.Lib.Index
import Derived.Lib.IndexMore
import Derived.Lib.IndexBytes
namespace Go.Proofs.YtidcbcljeofooaaGreatDoor
open Go.Lib
def isD (c : UInt8) : Bool := decide (48 ≤ c.toNat) && decide (c.toNat ≤ 57)
theorem isD_iff (c : UInt8) : isD c = true ↔ 48 ≤ c.toNat ∧ c.toNat ≤ 57 := by unfold isD; simp
def valD (l : List UInt8) : Nat := l.foldl (fun n c => 10 * n + (c.toNat - 48)) 0
theorem valD_snoc (l : List UInt8) (c : UInt8) : valD (l ++ [c]) = 10 * valD l + (c.toNat - 48) := by unfold valD; rw [List.foldl_append]; rfl
theorem valD_acc : ∀ (l : List UInt8) (n : Nat), l.all isD = true → l.foldl (fun n c => 10 * n + (c.toNat - 48)) n < (n + 1) * 10 ^ l.length := by
  intro l
  induction l with
  | nil => intro n _; simp
  | cons c l ih =>
    intro n h
    rw [List.all_cons, Bool.and_eq_true, isD_iff] at h
    have h1 := ih (10 * n + (c.toNat - 48)) h.2
    rw [List.foldl_cons, List.length_cons, Nat.pow_succ]
    refine Nat.lt_of_lt_of_le h1 ?_
    rw [Nat.mul_comm (10 ^ l.length) 10, ← Nat.mul_assoc]
    exact Nat.mul_le_mul_right _ (by omega)
theorem valD_lt (l : List UInt8) (h : l.all isD = true) : valD l < 10 ^ l.length := by
  have := valD_acc l 0 h
  unfold valD
  simpa using this
/-- A number: one to thirteen digits, no zero ahead of others. -/
def okN (l : List UInt8) : Bool := l.all isD && decide (1 ≤ l.length) && decide (l.length ≤ 13) && (decide (l.length = 1) || decide (l.getD 0 0 ≠ 48))
theorem okN_iff (l : List UInt8) : okN l = true ↔ l.all isD = true ∧ 1 ≤ l.length ∧ l.length ≤ 13 ∧ (l.length = 1 ∨ l.getD 0 0 ≠ 48) := by
  unfold okN; simp only [Bool.and_eq_true, Bool.or_eq_true, decide_eq_true_eq, and_assoc]
def numP (l : List UInt8) : Option Nat := if okN l then some (valD l) else none
theorem numP_some {l : List UInt8} {n : Nat} (h : numP l = some n) : okN l = true ∧ valD l = n := by
  unfold numP at h
  split at h
  · rename_i q; injection h with h; exact ⟨q, h⟩
  · cases h
theorem numP_none {l : List UInt8} (h : okN l = false) : numP l = none := by unfold numP; rw [h]; rfl
theorem numP_ok {l : List UInt8} (h : okN l = true) : numP l = some (valD l) := by unfold numP; rw [h]; rfl
theorem numP_lt {l : List UInt8} {n : Nat} (h : numP l = some n) : n < 10000000000000 := by
  obtain ⟨h1, rfl⟩ := numP_some h
  rw [okN_iff] at h1
  have h2 := valD_lt l h1.1
  have h3 : 10 ^ l.length ≤ 10 ^ 13 := Nat.pow_le_pow_right (by omega) h1.2.2.1
  omega
/-- What stands between the bytes c. -/
def splG (c : UInt8) : List UInt8 → List UInt8 → List (List UInt8)
  | acc, [] => [acc]
  | acc, x :: t => if x = c then acc :: splG c [] t else splG c (acc ++ [x]) t
abbrev spl (c : UInt8) (l : List UInt8) : List (List UInt8) := splG c [] l
theorem splG_ne (c : UInt8) : ∀ t acc, 1 ≤ (splG c acc t).length := by
  intro t
  induction t with
  | nil => intro acc; simp [splG]
  | cons x t ih =>
    intro acc
    unfold splG
    split
    · simp
    · exact ih _
theorem splG_len (c : UInt8) : ∀ t acc, (splG c acc t).length ≤ t.length + 1 := by
  intro t
  induction t with
  | nil => intro acc; simp [splG]
  | cons x t ih =>
    intro acc
    unfold splG
    split
    · have := ih []; simp; omega
    · have := ih (acc ++ [x]); simp; omega
theorem splG_miss (c : UInt8) : ∀ (t acc : List UInt8), c ∉ t → splG c acc t = [acc ++ t] := by
  intro t
  induction t with
  | nil => intro acc _; simp [splG]
  | cons x t ih =>
    intro acc h
    unfold splG
    rw [if_neg (fun e => h (by rw [e]; simp)), ih _ (fun e => h (by simp [e]))]
    simp
theorem splG_hit (c : UInt8) : ∀ (a acc t : List UInt8), c ∉ a → splG c acc (a ++ c :: t) = (acc ++ a) :: splG c [] t := by
  intro a
  induction a with
  | nil => intro acc t _; rw [List.nil_append, splG, if_pos rfl, List.append_nil]
  | cons x a ih =>
    intro acc t h
    rw [List.cons_append, splG, if_neg (fun e => h (by rw [e]; simp)), ih _ _ (fun e => h (by simp [e]))]
    simp
theorem ib_some (c : UInt8) : ∀ (l : List UInt8), (indexByte l c = -1 ∧ c ∉ l) ∨ ∃ i : Nat, indexByte l c = i ∧ i < l.length ∧ c ∉ l.take i ∧ l = l.take i ++ c :: l.drop (i + 1) := by
  intro l
  induction l with
  | nil => left; exact ⟨rfl, by simp⟩
  | cons x t ih =>
    by_cases hx : x = c
    · right
      refine ⟨0, by unfold indexByte; simp [hx], by simp, by simp, by simp [hx]⟩
    · rcases ih with ⟨h1, h2⟩ | ⟨i, h1, h2, h3, h4⟩
      · left
        refine ⟨by unfold indexByte; simp [hx, h1], ?_⟩
        rw [List.mem_cons]
        rintro (e | e)
        · exact hx e.symm
        · exact h2 e
      · right
        refine ⟨i + 1, ?_, by simpa using h2, ?_, ?_⟩
        · unfold indexByte
          simp [hx, h1]
        · rw [List.take_succ_cons, List.mem_cons]
          rintro (e | e)
          · exact hx e.symm
          · exact h3 e
        · rw [List.take_succ_cons, List.drop_succ_cons, List.cons_append, ← h4]
theorem splitK_spl (c : UInt8) : ∀ (k : Nat) (l : List UInt8), l.count c ≤ k → splitK [c] 0 k l = splG c [] l := by
  intro k
  induction k with
  | zero =>
    intro l h
    have : c ∉ l := by rw [← List.count_pos_iff]; omega
    rw [splG_miss c l [] this]; rfl
  | succ k ih =>
    intro l h
    unfold splitK
    rw [index_one]
    rcases ib_some c l with ⟨h1, h2⟩ | ⟨i, h1, h2, h3, h4⟩
    · rw [if_pos (by rw [h1]; rfl), splG_miss c l [] h2]; rfl
    · rw [if_neg (by rw [h1]; simp), h1]
      have hc : (l.drop (i + 1)).count c ≤ k := by
        rw [h4, List.count_append, List.count_cons_self] at h
        omega
      conv => rhs; rw [h4]
      rw [splG_hit c _ _ _ h3, ← ih _ hc]
      simp
/-- A vector's word. -/
def vecP (l : List UInt8) : Option (Nat × Nat × Nat × Nat) := match spl 58 l with
  | [a, b, c, d] => (match numP a, numP b, numP c, numP d with
    | some a, some b, some c, some d => some (a, b, c, d)
    | _, _, _, _ => none)
  | _ => none
/-- All of some words say something, or none. -/
def allP {α : Type} (f : List UInt8 → Option α) : List (List UInt8) → Option (List α)
  | [] => some []
  | a :: t => match f a, allP f t with
    | some n, some l => some (n :: l)
    | _, _ => none
section
variable {α : Type} {f : List UInt8 → Option α}
theorem allP_snoc (l : List (List UInt8)) (a : List UInt8) : allP f (l ++ [a]) = (match allP f l, f a with | some l', some n => some (l' ++ [n]) | _, _ => none) := by
  induction l with
  | nil => simp only [List.nil_append, allP]; cases f a <;> rfl
  | cons x t ih =>
    rw [List.cons_append]
    unfold allP
    rw [ih]
    cases f x <;> cases allP f t <;> cases f a <;> rfl
theorem allP_take_none {l : List (List UInt8)} {k : Nat} (h : allP f (l.take k) = none) : allP f l = none := by
  induction l generalizing k with
  | nil => simpa using h
  | cons a t ih =>
    cases k with
    | zero => simp [allP] at h
    | succ k =>
      rw [List.take_succ_cons] at h
      unfold allP at h ⊢
      cases ha : f a with
      | none => rfl
      | some n =>
        rw [ha] at h
        cases ht : allP f (t.take k) with
        | none => rw [ih ht]
        | some l' => rw [ht] at h; cases h
theorem allP_none {l : List (List UInt8)} {a : List UInt8} (ha : a ∈ l) (h : f a = none) : allP f l = none := by
  induction l with
  | nil => cases ha
  | cons x t ih =>
    unfold allP
    rw [List.mem_cons] at ha
    rcases ha with rfl | ha
    · rw [h]
    · rw [ih ha]; cases f x <;> rfl
theorem allP_len {l : List (List UInt8)} {m : List α} (h : allP f l = some m) : m.length = l.length := by
  induction l generalizing m with
  | nil => cases h; rfl
  | cons a t ih =>
    unfold allP at h
    cases ha : f a with
    | none => rw [ha] at h; cases h
    | some n =>
      cases ht : allP f t with
      | none => rw [ha, ht] at h; cases h
      | some l' => rw [ha, ht] at h; injection h with h; subst h; simp [ih ht]
theorem allP_take_succ {l : List (List UInt8)} {k : Nat} {a : List UInt8} {m : List α} {x : α} (hk : l[k]? = some a) (h : allP f (l.take k) = some m) (ha : f a = some x) : allP f (l.take (k + 1)) = some (m ++ [x]) := by
  rw [List.take_add_one, hk, Option.toList_some, allP_snoc, h, ha]
theorem allP_take_fail {l : List (List UInt8)} {k : Nat} {a : List UInt8} (hk : l[k]? = some a) (ha : f a = none) : allP f l = none := allP_none (List.mem_of_getElem? hk) ha
theorem allP_mem {l : List (List UInt8)} {m : List α} (h : allP f l = some m) : ∀ x ∈ m, ∃ a ∈ l, f a = some x := by
  induction l generalizing m with
  | nil => cases h; intro x hx; cases hx
  | cons a t ih =>
    unfold allP at h
    cases ha : f a with
    | none => rw [ha] at h; cases h
    | some n =>
      cases ht : allP f t with
      | none => rw [ha, ht] at h; cases h
      | some l' =>
        rw [ha, ht] at h
        injection h with h
        subst h
        intro x hx
        rw [List.mem_cons] at hx
        rcases hx with rfl | hx
        · exact ⟨a, by simp, ha⟩
        · obtain ⟨y, hy, e⟩ := ih ht x hx
          exact ⟨y, by simp [hy], e⟩
theorem allP_map {β : Type} {l : List β} {g : β → List UInt8} {k : β → α} (h : ∀ x ∈ l, f (g x) = some (k x)) : allP f (l.map g) = some (l.map k) := by
  induction l with
  | nil => rfl
  | cons x t ih =>
    rw [List.map_cons, List.map_cons]
    unfold allP
    rw [h x (by simp), ih (fun y hy => h y (by simp [hy]))]
end
/-- Put among others, in order, each once. -/
def insD (l : List Int) (x : Int) : List Int := match l with
  | [] => [x]
  | y :: t => if x < y then x :: y :: t else if x = y then y :: t else y :: insD t x
theorem insD_mem (l : List Int) (x z : Int) : z ∈ insD l x ↔ z ∈ l ∨ z = x := by
  induction l with
  | nil => simp [insD]
  | cons y t ih =>
    unfold insD
    split
    · simp only [List.mem_cons]
      constructor
      · rintro (h | h | h)
        · exact .inr h
        · exact .inl (.inl h)
        · exact .inl (.inr h)
      · rintro ((h | h) | h)
        · exact .inr (.inl h)
        · exact .inr (.inr h)
        · exact .inl h
    · split
      · rename_i e
        subst e
        simp only [List.mem_cons]
        constructor
        · exact .inl
        · rintro (h | h)
          · exact h
          · exact .inl h
      · simp only [List.mem_cons, ih]
        constructor
        · rintro (h | h | h)
          · exact .inl (.inl h)
          · exact .inl (.inr h)
          · exact .inr h
        · rintro ((h | h) | h)
          · exact .inl h
          · exact .inr (.inl h)
          · exact .inr (.inr h)
theorem insD_rise {l : List Int} (h : l.Pairwise (· < ·)) (x : Int) : (insD l x).Pairwise (· < ·) := by
  induction l with
  | nil => simp [insD]
  | cons y t ih =>
    have h2 := List.pairwise_cons.1 h
    unfold insD
    split
    · rename_i q
      refine List.pairwise_cons.2 ⟨fun z hz => ?_, h⟩
      rw [List.mem_cons] at hz
      rcases hz with rfl | hz
      · exact q
      · have := h2.1 z hz; omega
    · split
      · exact h
      · refine List.pairwise_cons.2 ⟨fun z hz => ?_, ih h2.2⟩
        rw [insD_mem] at hz
        rcases hz with hz | rfl
        · exact h2.1 z hz
        · omega
def ded (l : List Int) : List Int := l.foldl insD []
theorem ded_acc : ∀ (l acc : List Int), acc.Pairwise (· < ·) → (l.foldl insD acc).Pairwise (· < ·) ∧ ∀ z, z ∈ l.foldl insD acc ↔ z ∈ acc ∨ z ∈ l := by
  intro l
  induction l with
  | nil => intro acc h; simp [h]
  | cons x t ih =>
    intro acc h
    rw [List.foldl_cons]
    obtain ⟨h1, h2⟩ := ih _ (insD_rise h x)
    refine ⟨h1, fun z => ?_⟩
    rw [h2, insD_mem, List.mem_cons, or_assoc]
theorem ded_rise (l : List Int) : (ded l).Pairwise (· < ·) := (ded_acc l [] List.Pairwise.nil).1
theorem ded_mem (l : List Int) (z : Int) : z ∈ ded l ↔ z ∈ l := by rw [ded, (ded_acc l [] List.Pairwise.nil).2]; simp
theorem ded_snoc (l : List Int) (x : Int) : ded (l ++ [x]) = insD (ded l) x := by unfold ded; rw [List.foldl_append]; rfl
theorem riseZ_eq : ∀ {l m : List Int}, l.Pairwise (· < ·) → m.Pairwise (· < ·) → (∀ x, x ∈ l ↔ x ∈ m) → l = m
  | [], [], _, _, _ => rfl
  | [], y :: t, _, _, h => by have := (h y).2 (by simp); cases this
  | x :: s, [], _, _, h => by have := (h x).1 (by simp); cases this
  | x :: s, y :: t, h1, h2, h => by
    rw [List.pairwise_cons] at h1 h2
    have exy : x = y := by
      have hx : x ∈ y :: t := (h x).1 (by simp)
      have hy : y ∈ x :: s := (h y).2 (by simp)
      rw [List.mem_cons] at hx hy
      rcases hx with e | e
      · exact e
      · rcases hy with e2 | e2
        · exact e2.symm
        · have := h2.1 x e; have := h1.1 y e2; omega
    subst exy
    congr 1
    refine riseZ_eq h1.2 h2.2 fun z => ?_
    have hz := h z
    rw [List.mem_cons, List.mem_cons] at hz
    constructor
    · intro e
      rcases hz.1 (.inr e) with rfl | q
      · have := h1.1 z e; omega
      · exact q
    · intro e
      rcases hz.2 (.inr e) with rfl | q
      · have := h2.1 z e; omega
      · exact q
theorem ded_of {l m : List Int} (hs : m.Pairwise (· < ·)) (hm : ∀ x, x ∈ m ↔ x ∈ l) : m = ded l := riseZ_eq hs (ded_rise l) fun x => by rw [hm, ded_mem]
theorem ded_self {l : List Int} (h : l.Pairwise (· < ·)) : ded l = l := (ded_of h fun _ => Iff.rfl).symm
theorem insD_len (l : List Int) (x : Int) : (insD l x).length ≤ l.length + 1 := by
  induction l with
  | nil => simp [insD]
  | cons y t ih =>
    unfold insD
    split
    · simp
    · split
      · simp
      · simp only [List.length_cons]; omega
theorem ded_len (l : List Int) : (ded l).length ≤ l.length := by
  have key : ∀ (l acc : List Int), (l.foldl insD acc).length ≤ acc.length + l.length := by
    intro l
    induction l with
    | nil => intro acc; simp
    | cons x t ih =>
      intro acc
      rw [List.foldl_cons]
      have := ih (insD acc x)
      have := insD_len acc x
      simp only [List.length_cons]
      omega
  have h := key l []
  rw [List.length_nil, Nat.zero_add] at h
  exact h
/-- A list's word: a dash, or numbers with commas. -/
def lstP (l : List UInt8) : Option (List Int) := if l = [45] then some [] else (match allP numP (spl 44 l) with | some m => some (ded (m.map fun n : Nat => (n : Int))) | none => none)
end Go.Proofs.YtidcbcljeofooaaGreatDoor
