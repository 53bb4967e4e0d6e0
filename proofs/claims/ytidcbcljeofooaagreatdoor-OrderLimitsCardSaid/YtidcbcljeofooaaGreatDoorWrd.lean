/- Chapter 1, plain law: the program's Words, rune by rune. -/
import Derived.Test.YtidcbcljeofooaaGreatDoorRunP
import Derived.Lib.RuneBytes
namespace Go.Proofs.YtidcbcljeofooaaGreatDoor
open Go.Lib
/-- One rune: place 0 between, 1 bare, 2 quoted, 3 escaped, 4 behind; the bytes of the word under way; the words. -/
def wstep (q c : Nat) (enc b : List UInt8) (l : List ByteArray) : Option (Nat × List UInt8 × List ByteArray) :=
  if q = 3 then (if c = 34 ∨ c = 92 then some (2, b ++ enc, l) else none)
  else if q = 2 then (if c = 92 then some (3, b, l) else if c = 34 then some (4, [], l ++ [⟨b.toArray⟩]) else some (2, b ++ enc, l))
  else if c = 32 then (if q = 1 then some (0, [], l ++ [⟨b.toArray⟩]) else some (0, b, l))
  else if q = 4 ∨ (q = 1 ∧ c = 34) then none
  else if c = 34 then some (2, b, l)
  else some (1, b ++ enc, l)
/-- At the end: the place of the fault, or the words. -/
def wend (s : ByteArray) (q : Nat) (b : List UInt8) (l : List ByteArray) : Nat ⊕ List ByteArray :=
  if q = 2 ∨ q = 3 then .inl s.size else if q = 1 then .inr (l ++ [⟨b.toArray⟩]) else .inr l
def wgo (s : ByteArray) : Nat → Nat → Nat → List UInt8 → List ByteArray → Nat ⊕ List ByteArray
  | 0, _, q, b, l => wend s q b l
  | f + 1, i, q, b, l => if i < s.size then
      (match wstep q (Utf8.decode s i).1 (encodeRune ((Utf8.decode s i).1 : Int)) b l with
        | none => .inl i
        | some (q', b', l') => wgo s f (i + (Utf8.decode s i).2) q' b' l')
    else wend s q b l
theorem wgo_fuel (s : ByteArray) : ∀ f g i q b l, s.size - i ≤ f → s.size - i ≤ g → wgo s f i q b l = wgo s g i q b l
  | 0, 0, _, _, _, _, _, _ => rfl
  | 0, g + 1, i, q, b, l, h, _ => by unfold wgo; rw [if_neg (by omega)]
  | f + 1, 0, i, q, b, l, _, h => by unfold wgo; rw [if_neg (by omega)]
  | f + 1, g + 1, i, q, b, l, h1, h2 => by
    unfold wgo
    by_cases hi : i < s.size
    · have := dec_pos hi
      rw [if_pos hi, if_pos hi]
      cases wstep q (Utf8.decode s i).1 (encodeRune ((Utf8.decode s i).1 : Int)) b l with
      | none => rfl
      | some x => exact wgo_fuel s f g _ _ _ _ (by omega) (by omega)
    · rw [if_neg hi, if_neg hi]
def wgoA (s : ByteArray) (i q : Nat) (b : List UInt8) (l : List ByteArray) : Nat ⊕ List ByteArray := wgo s s.size i q b l
theorem wgoA_end {s : ByteArray} {i q : Nat} {b : List UInt8} {l : List ByteArray} (h : ¬ i < s.size) : wgoA s i q b l = wend s q b l := by
  unfold wgoA
  cases s.size with
  | zero => rfl
  | succ f =>
    unfold wgo
    rw [if_neg h]
theorem wgoA_eq {s : ByteArray} {i q : Nat} {b : List UInt8} {l : List ByteArray} (hi : i < s.size) : wgoA s i q b l =
      (match wstep q (Utf8.decode s i).1 (encodeRune ((Utf8.decode s i).1 : Int)) b l with
        | none => .inl i
        | some (q', b', l') => wgoA s (i + (Utf8.decode s i).2) q' b' l') := by
  have h1 := dec_pos hi
  obtain ⟨f, hf⟩ : ∃ f, s.size = f + 1 := ⟨s.size - 1, by omega⟩
  have h2 : wgoA s i q b l = wgo s (f + 1) i q b l := by unfold wgoA; rw [hf]
  rw [h2]
  unfold wgo
  rw [if_pos hi]
  cases wstep q (Utf8.decode s i).1 (encodeRune ((Utf8.decode s i).1 : Int)) b l with
  | none => rfl
  | some x => exact wgo_fuel s f s.size _ _ _ _ (by omega) (by omega)
theorem wgoA_no {s : ByteArray} {i q : Nat} {b : List UInt8} {l : List ByteArray} {c k : Nat} (hi : i < s.size) (hd : Utf8.decode s i = (c, k)) (h : wstep q c (encodeRune (c : Int)) b l = none) : wgoA s i q b l = .inl i := by
  rw [wgoA_eq hi, hd]; simp only; rw [h]
theorem wgoA_on {s : ByteArray} {i q : Nat} {b : List UInt8} {l : List ByteArray} {c k q' : Nat} {b' : List UInt8} {l' : List ByteArray} (hi : i < s.size) (hd : Utf8.decode s i = (c, k)) (h : wstep q c (encodeRune (c : Int)) b l = some (q', b', l')) : wgoA s i q b l = wgoA s (i + k) q' b' l' := by
  rw [wgoA_eq hi, hd]; simp only; rw [h]
/-- What Words answers: the words, the place, the error. -/
def wres (s : ByteArray) : List ByteArray × Nat × Int :=
  if (chkA s 0 0).2.2 ≠ 0 then ([], (chkA s 0 0).2.1, (chkA s 0 0).2.2)
  else match wgoA s 0 0 [] [] with
    | .inl k => ([], k, 4)
    | .inr l => (l, 0, 0)
theorem enc_len (c : Nat) : (encodeRune (c : Int)).length ≤ 4 := by
  have := encodeRuneZ_length (c : Int)
  have h2 := runeCells_length (c : Int)
  simp [runeCells] at h2
  omega
end Go.Proofs.YtidcbcljeofooaaGreatDoor
