/- Chapter 1, plain law: the words of a checked text, byte by byte. -/
import Derived.Test.YtidcbcljeofooaaGreatDoorWrd
import Derived.Lib.MapLaws
namespace Go.Proofs.YtidcbcljeofooaaGreatDoor
open Go.Lib
theorem dec_L (s : ByteArray) (i : Nat) : Utf8.decode s i = decodeL (s.data.toList.drop i) := by
  have h := tail_decode s i 0
  rw [Nat.add_zero] at h
  unfold decodeL
  rw [← h]
  congr 1
  apply ByteArray.ext
  apply Array.ext'
  simp [ByteArray.data_extract]
  rw [List.take_of_length_le (by simp)]
theorem dec_shape {s : ByteArray} {i : Nat} (hv : Utf8.decode s i ≠ (65533, 1)) : ((s.get! i).toNat < 128 ∧ Utf8.decode s i = ((s.get! i).toNat, 1)) ∨ (128 ≤ (s.get! i).toNat ∧ 128 ≤ (Utf8.decode s i).1 ∧ 2 ≤ (Utf8.decode s i).2) := by
  rw [decode_at] at hv ⊢
  rcases decodeN_shape (s.size - i) (s.get! i).toNat (s.get! (i + 1)).toNat (s.get! (i + 2)).toNat (s.get! (i + 3)).toNat with ⟨c, e⟩ | ⟨c1, c2, c3, cv, e⟩ | ⟨c1, c2, c3, c4, cv, cs, e⟩ | ⟨c1, c2, c3, c4, c5, cv, cw, e⟩ | e
  · exact .inl ⟨c, e⟩
  · rw [e]; right; simp only; omega
  · rw [e]; right; simp only; omega
  · rw [e]; right; simp only; omega
  · exact absurd e hv
theorem enc_dec {s : ByteArray} {i : Nat} (hi : i < s.size) (hv : Utf8.decode s i ≠ (65533, 1)) : encodeRune ((Utf8.decode s i).1 : Int) = (s.data.toList.drop i).take (Utf8.decode s i).2 := by
  rw [dec_L] at hv ⊢
  refine encode_decode _ ?_ (fun h => hv (Prod.ext h.1 h.2))
  intro h
  have := congrArg List.length h
  simp at this
  omega
/-- The automaton over bytes. -/
def bgo (s : ByteArray) : Nat → Nat → Nat → List UInt8 → List ByteArray → Nat ⊕ List ByteArray
  | 0, _, q, b, l => wend s q b l
  | f + 1, i, q, b, l => if i < s.size then
      (match wstep q (s.get! i).toNat [s.get! i] b l with
        | none => .inl i
        | some (q', b', l') => bgo s f (i + 1) q' b' l')
    else wend s q b l
theorem bgo_fuel (s : ByteArray) : ∀ f g i q b l, s.size - i ≤ f → s.size - i ≤ g → bgo s f i q b l = bgo s g i q b l
  | 0, 0, _, _, _, _, _, _ => rfl
  | 0, g + 1, i, q, b, l, h, _ => by unfold bgo; rw [if_neg (by omega)]
  | f + 1, 0, i, q, b, l, _, h => by unfold bgo; rw [if_neg (by omega)]
  | f + 1, g + 1, i, q, b, l, h1, h2 => by
    unfold bgo
    by_cases hi : i < s.size
    · rw [if_pos hi, if_pos hi]
      cases wstep q (s.get! i).toNat [s.get! i] b l with
      | none => rfl
      | some x => exact bgo_fuel s f g _ _ _ _ (by omega) (by omega)
    · rw [if_neg hi, if_neg hi]
def bgoA (s : ByteArray) (i q : Nat) (b : List UInt8) (l : List ByteArray) : Nat ⊕ List ByteArray := bgo s s.size i q b l
theorem bgoA_end {s : ByteArray} {i q : Nat} {b : List UInt8} {l : List ByteArray} (h : ¬ i < s.size) : bgoA s i q b l = wend s q b l := by
  unfold bgoA
  cases s.size with
  | zero => rfl
  | succ f =>
    unfold bgo
    rw [if_neg h]
theorem bgoA_eq {s : ByteArray} {i q : Nat} {b : List UInt8} {l : List ByteArray} (hi : i < s.size) : bgoA s i q b l =
      (match wstep q (s.get! i).toNat [s.get! i] b l with
        | none => .inl i
        | some (q', b', l') => bgoA s (i + 1) q' b' l') := by
  obtain ⟨f, hf⟩ : ∃ f, s.size = f + 1 := ⟨s.size - 1, by omega⟩
  have h2 : bgoA s i q b l = bgo s (f + 1) i q b l := by unfold bgoA; rw [hf]
  rw [h2]
  unfold bgo
  rw [if_pos hi]
  cases wstep q (s.get! i).toNat [s.get! i] b l with
  | none => rfl
  | some x => exact bgo_fuel s f s.size _ _ _ _ (by omega) (by omega)
theorem bgoA_no {s : ByteArray} {i q : Nat} {b : List UInt8} {l : List ByteArray} (hi : i < s.size) (h : wstep q (s.get! i).toNat [s.get! i] b l = none) : bgoA s i q b l = .inl i := by
  rw [bgoA_eq hi, h]
theorem bgoA_on {s : ByteArray} {i q : Nat} {b : List UInt8} {l : List ByteArray} {q' : Nat} {b' : List UInt8} {l' : List ByteArray} (hi : i < s.size) (h : wstep q (s.get! i).toNat [s.get! i] b l = some (q', b', l')) : bgoA s i q b l = bgoA s (i + 1) q' b' l' := by
  rw [bgoA_eq hi, h]
theorem wstep_high {q c : Nat} (enc b : List UInt8) (l : List ByteArray) (hc : 128 ≤ c) (hq : q ≤ 4) : wstep q c enc b l = if q = 3 ∨ q = 4 then none else if q = 2 then some (2, b ++ enc, l) else some (1, b ++ enc, l) := by
  unfold wstep
  have h1 : ¬ c = 32 := by omega
  have h2 : ¬ c = 34 := by omega
  have h3 : ¬ c = 92 := by omega
  obtain rfl | rfl | rfl | rfl | rfl : q = 0 ∨ q = 1 ∨ q = 2 ∨ q = 3 ∨ q = 4 := by omega
  all_goals simp [h1, h2, h3]
theorem drop_get {s : ByteArray} {i : Nat} (hi : i < s.size) : s.data.toList.drop i = s.get! i :: s.data.toList.drop (i + 1) := by
  have hl : s.data.toList.length = s.size := by simp
  rw [← getD_get!', List.drop_eq_getElem_cons (by omega)]
  simp [List.getD, hl, hi]
/-- Bytes of a long rune, in a word. -/
theorem bgo_high (s : ByteArray) (q : Nat) (l : List ByteArray) (hq : q = 1 ∨ q = 2) : ∀ k i b, i + k ≤ s.size → (∀ j, j < k → 128 ≤ (s.get! (i + j)).toNat) → bgoA s i q b l = bgoA s (i + k) q (b ++ (s.data.toList.drop i).take k) l := by
  intro k
  induction k with
  | zero => intro i b _ _; simp
  | succ k ih =>
    intro i b hi hb
    have h0 := hb 0 (by omega)
    rw [Nat.add_zero] at h0
    have hst : wstep q (s.get! i).toNat [s.get! i] b l = some (q, b ++ [s.get! i], l) := by
      rw [wstep_high _ _ _ h0 (by omega)]
      rcases hq with rfl | rfl <;> simp
    rw [bgoA_on (by omega) hst, ih (i + 1) _ (by omega) (fun j hj => by have := hb (j + 1) (by omega); rwa [show i + (j + 1) = i + 1 + j by omega] at this)]
    rw [drop_get (s := s) (i := i) (by omega), List.take_succ_cons, List.append_assoc, List.singleton_append, show i + 1 + k = i + (k + 1) by omega]
theorem wgo_bgo (s : ByteArray) : ∀ d i n q b l, s.size - i ≤ d → q ≤ 4 → (chkA s i n).2.2 = 0 → wgoA s i q b l = bgoA s i q b l := by
  intro d
  induction d with
  | zero => intro i n q b l h _ _; rw [wgoA_end (by omega), bgoA_end (by omega)]
  | succ d ih =>
    intro i n q b l h hq h0
    by_cases hi : i < s.size
    · by_cases hd : Utf8.decode s i = (65533, 1)
      · rw [chkA_bad hi hd] at h0; cases h0
      · by_cases hf : (Utf8.decode s i).1 < 32 ∨ (Utf8.decode s i).1 = 127
        · rw [chkA_form hi hd hf] at h0; cases h0
        · have h1 := dec_pos hi
          have h2 := dec_le hi
          have he := enc_dec hi hd
          rw [chkA_step hi hd hf] at h0
          have hw : ∀ q' c k enc b' l', q' ≤ 4 → Utf8.decode s i = (c, k) → wstep q c enc b l = some (q', b', l') → enc = encodeRune (c : Int) → wgoA s i q b l = bgoA s (i + k) q' b' l' := by
            intro q' c k enc b' l' hq' hck hst henc
            rw [henc] at hst
            rw [wgoA_on hi hck hst]
            have := ih (i + (Utf8.decode s i).2) (n + 1) q' b' l' (by omega) hq' h0
            rwa [hck] at this
          rcases dec_shape hd with ⟨c1, e⟩ | ⟨c1, c2, c3⟩
          · rw [e] at he
            simp only at he
            rw [drop_get hi, List.take_succ_cons, List.take_zero] at he
            cases hst : wstep q (s.get! i).toNat [s.get! i] b l with
            | none => rw [bgoA_no hi hst, wgoA_no hi e (by rw [he]; exact hst)]
            | some x =>
              obtain ⟨q', b', l'⟩ := x
              have hq' : q' ≤ 4 := by
                unfold wstep at hst
                repeat' split at hst
                all_goals first | (cases hst; omega) | cases hst
              rw [bgoA_on hi hst]
              exact hw _ _ _ _ _ _ hq' e hst he.symm
          · generalize hck : Utf8.decode s i = g at *
            obtain ⟨c, k⟩ := g
            simp only at c2 c3 he h2
            have hall : ∀ j, j < k → 128 ≤ (s.get! (i + j)).toNat := fun j hj => by
              rcases Nat.eq_zero_or_pos j with rfl | hj0
              · exact c1
              · have := dec_cont (s := s) (i := i) (k := j) (by rw [hck]; exact hd) hj0 (by rw [hck]; exact hj)
                omega
            by_cases h34 : q = 3 ∨ q = 4
            · rw [bgoA_no hi (by rw [wstep_high _ _ _ c1 hq, if_pos h34]), wgoA_no hi hck (by rw [wstep_high _ _ _ c2 hq, if_pos h34])]
            · by_cases h2' : q = 2
              · subst h2'
                rw [hw 2 c k _ (b ++ encodeRune (c : Int)) l (by omega) rfl (by rw [wstep_high _ _ _ c2 hq]; simp) rfl, bgo_high s 2 l (.inr rfl) k i b (by omega) hall, he]
              · rw [hw 1 c k _ (b ++ encodeRune (c : Int)) l (by omega) rfl (by rw [wstep_high _ _ _ c2 hq, if_neg h34, if_neg h2']) rfl]
                have hst : wstep q (s.get! i).toNat [s.get! i] b l = some (1, b ++ [s.get! i], l) := by rw [wstep_high _ _ _ c1 hq, if_neg h34, if_neg h2']
                rw [bgoA_on hi hst, bgo_high s 1 l (.inl rfl) (k - 1) (i + 1) _ (by omega) (fun j hj => by have := hall (j + 1) (by omega); rwa [show i + (j + 1) = i + 1 + j by omega] at this), he]
                rw [drop_get hi]
                obtain ⟨k', rfl⟩ : ∃ k', k = k' + 1 := ⟨k - 1, by omega⟩
                rw [List.take_succ_cons, show k' + 1 - 1 = k' by omega, List.append_assoc, List.singleton_append, show i + 1 + k' = i + (k' + 1) by omega]
    · rw [wgoA_end hi, bgoA_end hi]
/-- Of a text that is one, byte by byte. -/
theorem words_bytes {s : ByteArray} (h : (chkA s 0 0).2.2 = 0) : wgoA s 0 0 [] [] = bgoA s 0 0 [] [] := wgo_bgo s s.size 0 0 0 [] [] (by omega) (by omega) h
end Go.Proofs.YtidcbcljeofooaaGreatDoor
