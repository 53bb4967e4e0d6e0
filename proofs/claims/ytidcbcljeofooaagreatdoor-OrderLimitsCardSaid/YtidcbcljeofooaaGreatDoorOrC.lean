/- Chapter 20, plain law: the words of a text, over its bytes as a list; words with blanks between are cut to themselves. -/
import Derived.Test.YtidcbcljeofooaaGreatDoorOrB
import Derived.Test.YtidcbcljeofooaaGreatDoorWrb
import Derived.Lib.Join
namespace Go.Proofs.YtidcbcljeofooaaGreatDoor
open Go.Lib
/-- The automaton, from place q on. -/
def bw : Nat → List UInt8 → List ByteArray → List UInt8 → Option (List ByteArray)
  | q, b, l, [] => if q = 2 ∨ q = 3 then none else if q = 1 then some (l ++ [⟨b.toArray⟩]) else some l
  | q, b, l, c :: t => match wstep q c.toNat [c] b l with
    | none => none
    | some (q', b', l') => bw q' b' l' t
theorem bw_on {q : Nat} {b : List UInt8} {l : List ByteArray} {c : UInt8} {t : List UInt8} {q' : Nat} {b' : List UInt8} {l' : List ByteArray} (h : wstep q c.toNat [c] b l = some (q', b', l')) : bw q b l (c :: t) = bw q' b' l' t := by
  rw [bw, h]
theorem bw_bgo (s : ByteArray) : ∀ d i q b l, s.size - i ≤ d → i ≤ s.size → (∀ r, bw q b l (s.data.toList.drop i) = some r → bgoA s i q b l = .inr r) ∧ (bw q b l (s.data.toList.drop i) = none → ∃ k, bgoA s i q b l = .inl k) := by
  intro d
  induction d with
  | zero =>
    intro i q b l hd hi
    have hn : ¬ i < s.size := by omega
    have he : s.data.toList.drop i = [] := List.drop_eq_nil_of_le (by have : s.data.toList.length = s.size := by simp
                                                                      omega)
    rw [he, bgoA_end hn]
    unfold bw wend
    constructor
    · intro r h
      split at h
      · cases h
      · split at h <;> (injection h with h; subst h)
        · rename_i h1 h2; rw [if_neg h1, if_pos h2]
        · rename_i h1 h2; rw [if_neg h1, if_neg h2]
    · intro h
      split at h
      · rename_i h1; exact ⟨s.size, by rw [if_pos h1]⟩
      · split at h <;> cases h
  | succ d ih =>
    intro i q b l hd hi
    by_cases hn : i < s.size
    · rw [drop_get hn]
      cases hw : wstep q (s.get! i).toNat [s.get! i] b l with
      | none =>
        rw [bgoA_no hn hw]
        unfold bw
        rw [hw]
        exact ⟨fun r h => (by cases h), fun _ => ⟨i, rfl⟩⟩
      | some x =>
        obtain ⟨q', b', l'⟩ := x
        rw [bgoA_on hn hw, bw_on hw]
        exact ih (i + 1) q' b' l' (by omega) (by omega)
    · exact ih i q b l (by omega) hi
/-- What is cut out of a checked text. -/
def cutW (s : ByteArray) : Option (List ByteArray) := bw 0 [] [] s.data.toList
theorem wres_cut {s : ByteArray} (h : (chkA s 0 0).2.2 = 0) : (∀ r, cutW s = some r → wres s = (r, 0, 0)) ∧ (cutW s = none → (wres s).2.2 = 4) := by
  have hb := bw_bgo s s.size 0 0 [] [] (by omega) (by omega)
  rw [List.drop_zero] at hb
  have hw := words_bytes h
  constructor
  · intro r hr
    have h1 := hb.1 r hr
    unfold wres
    rw [if_neg (by rw [h]; simp), hw, h1]
  · intro hn
    obtain ⟨k, h1⟩ := hb.2 hn
    unfold wres
    rw [if_neg (by rw [h]; simp), hw, h1]
theorem wres_chk {s : ByteArray} (h : (chkA s 0 0).2.2 ≠ 0) : wres s = ([], (chkA s 0 0).2.1, (chkA s 0 0).2.2) := by
  unfold wres; rw [if_pos h]
/-- What a short line says, by its words. -/
def restP (x : List ByteArray × Nat × Int) : Cm × Int :=
  if x.2.2 ≠ 0 then (cm0, x.2.2)
  else if kindP x.1 = 0 then (cm0, 13)
  else match cmdP (kindP x.1) x.1 with
    | none => (cm0, 12)
    | some c => if formB c then (c, 0) else (cm0, 4)
theorem lineP_short {s : ByteArray} (hs : s.size ≤ 512) : lineP s = restP (wres s) := by
  unfold lineP
  have h : ¬ 512 < s.size := by omega
  rw [if_neg h]
  rfl
theorem restP_bad {x : List ByteArray × Nat × Int} (h : x.2.2 ≠ 0) : restP x = (cm0, x.2.2) := by unfold restP; rw [if_pos h]
/-- A line says what its check and its cut say. -/
theorem lineP_same {s t : ByteArray} (hs : s.size ≤ 512) (ht : t.size ≤ 512) (hc : (chkA s 0 0).2.2 = (chkA t 0 0).2.2) (hw : cutW s = cutW t) : lineP s = lineP t := by
  rw [lineP_short hs, lineP_short ht]
  by_cases h : (chkA s 0 0).2.2 = 0
  · have h2 : (chkA t 0 0).2.2 = 0 := by rw [← hc]; exact h
    cases hcw : cutW s with
    | none =>
      have e1 := (wres_cut h).2 hcw
      have e2 := (wres_cut h2).2 (by rw [← hw]; exact hcw)
      rw [restP_bad (by rw [e1]; simp), restP_bad (by rw [e2]; simp), e1, e2]
    | some r =>
      rw [(wres_cut h).1 r hcw, (wres_cut h2).1 r (by rw [← hw]; exact hcw)]
  · have h2 : (chkA t 0 0).2.2 ≠ 0 := by rw [← hc]; exact h
    rw [wres_chk h, wres_chk h2, restP_bad h, restP_bad h2, hc]
theorem lineP_words {s : ByteArray} {r : List ByteArray} (hs : s.size ≤ 512) (h : (chkA s 0 0).2.2 = 0) (hr : cutW s = some r) : lineP s = restP (r, 0, 0) := by
  rw [lineP_short hs, (wres_cut h).1 r hr]
/-- Bytes of a bare word. -/
def bareB (a : List UInt8) : Bool := !a.isEmpty && a.all fun c => c != 32 && c != 34
theorem bareB_iff (a : List UInt8) : bareB a = true ↔ a ≠ [] ∧ ∀ c ∈ a, c.toNat ≠ 32 ∧ c.toNat ≠ 34 := by
  unfold bareB
  rw [Bool.and_eq_true, List.all_eq_true]
  have e : ∀ c : UInt8, ((c != 32 && c != 34) = true) ↔ (c.toNat ≠ 32 ∧ c.toNat ≠ 34) := fun c => by
    rw [Bool.and_eq_true, bne_iff_ne, bne_iff_ne]
    constructor
    · rintro ⟨h1, h2⟩
      exact ⟨fun h => h1 (UInt8.toNat_inj.1 h), fun h => h2 (UInt8.toNat_inj.1 h)⟩
    · rintro ⟨h1, h2⟩
      exact ⟨fun h => h1 (by rw [h]; rfl), fun h => h2 (by rw [h]; rfl)⟩
  constructor
  · rintro ⟨h1, h2⟩
    exact ⟨by intro h; rw [h] at h1; simp at h1, fun c hc => (e c).1 (h2 c hc)⟩
  · rintro ⟨h1, h2⟩
    exact ⟨by cases a with | nil => exact absurd rfl h1 | cons _ _ => rfl, fun c hc => (e c).2 (h2 c hc)⟩
theorem bw_bare : ∀ (a b : List UInt8) (l : List ByteArray) (t : List UInt8), (∀ c ∈ a, c.toNat ≠ 32 ∧ c.toNat ≠ 34) → bw 1 b l (a ++ t) = bw 1 (b ++ a) l t := by
  intro a
  induction a with
  | nil => intro b l t _; rw [List.nil_append, List.append_nil]
  | cons c a ih =>
    intro b l t h
    have h1 := h c (by simp)
    rw [List.cons_append, bw_on (q' := 1) (b' := b ++ [c]) (l' := l) (by unfold wstep; simp [h1.1, h1.2]), ih _ _ _ (fun x hx => h x (by simp [hx]))]
    simp
theorem bw_word {a : List UInt8} (h : bareB a = true) (l : List ByteArray) (t : List UInt8) : bw 0 [] l (a ++ t) = bw 1 a l t := by
  obtain ⟨h0, h⟩ := (bareB_iff a).1 h
  cases a with
  | nil => exact absurd rfl h0
  | cons c a =>
    have h1 := h c (by simp)
    rw [List.cons_append, bw_on (q' := 1) (b' := [c]) (l' := l) (by unfold wstep; simp [h1.1, h1.2]), bw_bare a [c] l t (fun x hx => h x (by simp [hx]))]
    rfl
theorem bw_blank (q : Nat) (hq : q = 0 ∨ q = 1) (b : List UInt8) (l : List ByteArray) (t : List UInt8) : bw q b l (32 :: t) = if q = 1 then bw 0 [] (l ++ [⟨b.toArray⟩]) t else bw 0 b l t := by
  rcases hq with rfl | rfl
  · rw [bw_on (q' := 0) (b' := b) (l' := l) (by unfold wstep; simp)]; rfl
  · rw [bw_on (q' := 0) (b' := []) (l' := l ++ [⟨b.toArray⟩]) (by unfold wstep; simp)]; rfl
theorem mk_toList (a : ByteArray) : (⟨a.data.toList.toArray⟩ : ByteArray) = a := by cases a; simp
/-- Words with blanks between them. -/
def jn : List ByteArray → List UInt8
  | [] => []
  | [a] => a.data.toList
  | a :: b :: t => a.data.toList ++ 32 :: jn (b :: t)
theorem jn_join (w : List ByteArray) : jn w = Go.Lib.join (w.map (·.data.toList)) [32] := by
  induction w with
  | nil => rfl
  | cons a t ih =>
    cases t with
    | nil => rw [List.map_cons, List.map_nil, Go.Lib.join_one]; rfl
    | cons b t =>
      rw [List.map_cons, Go.Lib.join_cons, List.map_cons]
      unfold jn
      rw [ih, List.map_cons, Go.Lib.join_cons]
      unfold Go.Lib.joinTail
      simp
theorem bw_jn : ∀ (w : List ByteArray) (l : List ByteArray), (∀ a ∈ w, bareB a.data.toList = true) → bw 0 [] l (jn w) = some (l ++ w) := by
  intro w
  induction w with
  | nil => intro l _; unfold jn bw; simp
  | cons a t ih =>
    intro l h
    have ha := h a (by simp)
    cases t with
    | nil =>
      have e := bw_word ha l []
      rw [List.append_nil] at e
      unfold jn
      rw [e]
      unfold bw
      simp
    | cons b t =>
      unfold jn
      rw [bw_word ha, bw_blank 1 (.inr rfl), if_pos rfl, mk_toList, ih _ (fun x hx => h x (by simp [hx]))]
      simp
theorem chk_jn : ∀ (w : List ByteArray), (∀ a ∈ w, (chkA a 0 0).2.2 = 0) → (chkA ⟨(jn w).toArray⟩ 0 0).2.2 = 0 := by
  intro w
  induction w with
  | nil => intro _; decide
  | cons a t ih =>
    intro h
    have ha := h a (by simp)
    cases t with
    | nil => unfold jn; rw [mk_toList]; exact ha
    | cons b t =>
      have h1 := ih (fun x hx => h x (by simp [hx]))
      have h2 : (chkA (⟨#[32]⟩ : ByteArray) 0 0).2.2 = 0 := by decide
      have h3 := (both_ok _ _ (both_ok _ _ ha h2).1 h1).1
      have e : (⟨(jn (a :: b :: t)).toArray⟩ : ByteArray) = a ++ ⟨#[32]⟩ ++ ⟨(jn (b :: t)).toArray⟩ := by
        apply ByteArray.ext
        apply Array.ext'
        rw [ByteArray.data_append, ByteArray.data_append, Array.toList_append, Array.toList_append]
        show jn (a :: b :: t) = _
        rw [jn]
        simp
      rw [e]
      exact h3
theorem cut_jn {w : List ByteArray} (h : ∀ a ∈ w, bareB a.data.toList = true) : cutW ⟨(jn w).toArray⟩ = some w := by
  unfold cutW
  rw [show (⟨(jn w).toArray⟩ : ByteArray).data.toList = jn w by simp, bw_jn w [] h]
  rfl
end Go.Proofs.YtidcbcljeofooaaGreatDoor
