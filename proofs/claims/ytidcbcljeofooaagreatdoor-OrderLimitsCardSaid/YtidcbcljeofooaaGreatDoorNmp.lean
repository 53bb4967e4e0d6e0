/- Chapter 1, plain law: names one behind the other. -/
import Derived.Test.YtidcbcljeofooaaGreatDoorWrb
namespace Go.Proofs.YtidcbcljeofooaaGreatDoor
open Go.Lib
/-- A byte of a name: a small letter, digit, dash, underline, or one of a long rune. -/
def NB (c : Nat) : Prop := 128 ≤ c ∨ inName c = true
theorem NB_no {c : Nat} (h : NB c) : c ≠ 32 ∧ c ≠ 34 ∧ c ≠ 92 ∧ c ≠ 65 := by
  rcases h with h | h
  · omega
  · unfold inName at h
    simp only [Bool.or_eq_true, Bool.and_eq_true, decide_eq_true_eq, beq_iff_eq] at h
    omega
theorem nms_bytes (s : ByteArray) : ∀ d i n m, s.size - i ≤ d → nmsA s i n = some m → ∀ j, i ≤ j → j < s.size → NB (s.get! j).toNat := by
  intro d
  induction d with
  | zero => intro i n m h _ j h1 h2; omega
  | succ d ih =>
    intro i n m h e j h1 h2
    have hi : i < s.size := by omega
    rw [nmsA_eq, if_pos hi] at e
    split at e
    · rename_i hn
      obtain ⟨h3, h4⟩ := inName_ok hn
      have hd : Utf8.decode s i ≠ (65533, 1) := fun hd => h3 (by rw [hd])
      have := dec_pos hi
      by_cases hj : j < i + (Utf8.decode s i).2
      · rcases dec_shape hd with ⟨c1, e1⟩ | ⟨c1, c2, c3⟩
        · rw [e1] at hj hn
          simp only at hj hn
          obtain rfl : j = i := by omega
          exact .inr hn
        · left
          rcases Nat.eq_zero_or_pos (j - i) with h0 | h0
          · obtain rfl : j = i := by omega
            exact c1
          · have := dec_cont (k := j - i) hd h0 (by omega)
            rw [show i + (j - i) = j by omega] at this
            omega
      · exact ih _ _ _ (by omega) e j (by omega) h2
    · cases e
theorem name_some {s : ByteArray} (h : nameB s = true) : ∃ m, nmsA s 0 0 = some m ∧ 1 ≤ m ∧ m ≤ 16 := by
  unfold nameB at h
  split at h
  · rename_i m hm
    simp only [Bool.and_eq_true, decide_eq_true_eq] at h
    exact ⟨m, hm, h⟩
  · cases h
theorem name_bytes {s : ByteArray} (h : nameB s = true) : ∀ j, j < s.size → NB (s.get! j).toNat := by
  obtain ⟨m, hm, -⟩ := name_some h
  exact fun j hj => nms_bytes s s.size 0 0 m (by omega) hm j (by omega) hj
theorem name_pos {s : ByteArray} (h : nameB s = true) : 0 < s.size := by
  obtain ⟨m, hm, h1, -⟩ := name_some h
  rcases Nat.eq_zero_or_pos s.size with h0 | h0
  · rw [nmsA_eq, if_neg (by omega)] at hm
    cases hm
    omega
  · exact h0
theorem name_no_byte {s : ByteArray} {j : Nat} (hj : j < s.size) (h : ¬ NB (s.get! j).toNat) : nameB s = false := by
  cases hn : nameB s with
  | false => rfl
  | true => exact absurd (name_bytes hn j hj) h
/-- Bytes of a name in a bare word. -/
theorem bgo_bare (s : ByteArray) (l : List ByteArray) : ∀ k i b, i + k ≤ s.size → (∀ j, j < k → NB (s.get! (i + j)).toNat) → bgoA s i 1 b l = bgoA s (i + k) 1 (b ++ (s.data.toList.drop i).take k) l := by
  intro k
  induction k with
  | zero => intro i b _ _; simp
  | succ k ih =>
    intro i b hi hb
    have h0 := NB_no (hb 0 (by omega))
    rw [Nat.add_zero] at h0
    have hst : wstep 1 (s.get! i).toNat [s.get! i] b l = some (1, b ++ [s.get! i], l) := by
      unfold wstep
      simp [h0.1, h0.2.1]
    rw [bgoA_on (by omega) hst, ih (i + 1) _ (by omega) (fun j hj => by have := hb (j + 1) (by omega); rwa [show i + (j + 1) = i + 1 + j by omega] at this)]
    rw [drop_get (s := s) (i := i) (by omega), List.take_succ_cons, List.append_assoc, List.singleton_append, show i + 1 + k = i + (k + 1) by omega]
theorem bgo_word (s : ByteArray) (l : List ByteArray) (k i : Nat) (hk : 0 < k) (hi : i + k ≤ s.size) (hb : ∀ j, j < k → NB (s.get! (i + j)).toNat) : bgoA s i 0 [] l = bgoA s (i + k) 1 ((s.data.toList.drop i).take k) l := by
  have h0 := NB_no (hb 0 (by omega))
  rw [Nat.add_zero] at h0
  have hst : wstep 0 (s.get! i).toNat [s.get! i] [] l = some (1, [s.get! i], l) := by
    unfold wstep
    simp [h0.1, h0.2.1]
  rw [bgoA_on (by omega) hst, bgo_bare s l (k - 1) (i + 1) _ (by omega) (fun j hj => by have := hb (j + 1) (by omega); rwa [show i + (j + 1) = i + 1 + j by omega] at this)]
  obtain ⟨k', rfl⟩ : ∃ k', k = k' + 1 := ⟨k - 1, by omega⟩
  rw [drop_get (s := s) (i := i) (by omega), List.take_succ_cons, show k' + 1 - 1 = k' by omega, List.singleton_append, show i + 1 + k' = i + (k' + 1) by omega]
theorem name_ok {s : ByteArray} (h : nameB s = true) : (chkA s 0 0).2.2 = 0 := by
  obtain ⟨m, hm, -⟩ := name_some h
  rw [nms_chk s s.size 0 0 m (by omega) hm]
def spc : ByteArray := ⟨#[32]⟩
theorem spc_ok : (chkA spc 0 0).2.2 = 0 := by decide
theorem toList_app (a b : ByteArray) : (a ++ b).data.toList = a.data.toList ++ b.data.toList := by rw [ByteArray.data_append, Array.toList_append]
/-- Two names with a blank between are two words. -/
theorem two_names {a b : ByteArray} (ha : nameB a = true) (hb : nameB b = true) : wres (a ++ spc ++ b) = ([a, b], 0, 0) := by
  have h1 := (both_ok a spc (name_ok ha) spc_ok).1
  have h2 := (both_ok (a ++ spc) b h1 (name_ok hb)).1
  have hpa := name_pos ha
  have hpb := name_pos hb
  have hs : (a ++ spc ++ b).size = a.size + 1 + b.size := by rw [size_app, size_app]; rfl
  have hL : (a ++ spc ++ b).data.toList = a.data.toList ++ (32 :: b.data.toList) := by rw [toList_app, toList_app, List.append_assoc]; rfl
  have hla : a.data.toList.length = a.size := by simp
  have hlb : b.data.toList.length = b.size := by simp
  have g1 : ∀ j, j < a.size → (a ++ spc ++ b).get! j = a.get! j := fun j hj => by rw [get_app, if_pos (by rw [size_app]; omega), get_app, if_pos hj]
  have g2 : (a ++ spc ++ b).get! a.size = 32 := by rw [get_app, if_pos (by rw [size_app]; show a.size < a.size + 1; omega), get_app, if_neg (by omega), Nat.sub_self]; rfl
  have g3 : ∀ j, (a ++ spc ++ b).get! (a.size + 1 + j) = b.get! j := fun j => by
    rw [get_app, if_neg (by rw [size_app]; show ¬ a.size + 1 + j < a.size + 1; omega)]; congr 1; rw [size_app]; show a.size + 1 + j - (a.size + 1) = j; omega
  unfold wres
  rw [if_neg (by rw [h2]; simp), words_bytes h2]
  rw [bgo_word _ [] a.size 0 hpa (by omega) (fun j hj => by rw [Nat.zero_add, g1 j hj]; exact name_bytes ha j hj), Nat.zero_add]
  have e1 : ((a ++ spc ++ b).data.toList.drop 0).take a.size = a.data.toList := by rw [hL, List.drop_zero, List.take_append_of_le_length (by omega), List.take_of_length_le (by omega)]
  rw [e1]
  have hst : wstep 1 ((a ++ spc ++ b).get! a.size).toNat [(a ++ spc ++ b).get! a.size] a.data.toList [] = some (0, [], [a]) := by
    rw [g2]
    unfold wstep
    simp
  rw [bgoA_on (by omega) hst]
  rw [bgo_word _ [a] b.size (a.size + 1) hpb (by omega) (fun j hj => by rw [g3 j]; exact name_bytes hb j hj)]
  have e2 : ((a ++ spc ++ b).data.toList.drop (a.size + 1)).take b.size = b.data.toList := by
    rw [hL, ← hla, List.drop_append, List.drop_eq_nil_of_le (by omega), List.nil_append, show a.data.toList.length + 1 - a.data.toList.length = 1 by omega, List.drop_succ_cons, List.drop_zero, List.take_of_length_le (by omega)]
  rw [e2, bgoA_end (by omega)]
  unfold wend
  simp
theorem nms_left (a b : ByteArray) : ∀ d i n m, a.size - i ≤ d → i ≤ a.size → nmsA a i n = some m → nmsA (a ++ b) i n = nmsA (a ++ b) a.size m := by
  intro d
  induction d with
  | zero =>
    intro i n m h hi e
    obtain rfl : i = a.size := by omega
    rw [nmsA_eq, if_neg (by omega)] at e
    cases e; rfl
  | succ d ih =>
    intro i n m h hi e
    by_cases hl : i < a.size
    · rw [nmsA_eq, if_pos hl] at e
      split at e
      · rename_i hn
        obtain ⟨h3, h4⟩ := inName_ok hn
        have hd : Utf8.decode a i ≠ (65533, 1) := fun hd => h3 (by rw [hd])
        have h1 := dec_pos hl
        have h2 := dec_le hl
        have h5 := dec_left (b := b) hl hd
        rw [nmsA_eq (a ++ b) i n, if_pos (by rw [size_app]; omega), h5, if_pos hn]
        exact ih _ _ _ (by omega) (by omega) e
      · cases e
    · obtain rfl : i = a.size := by omega
      rw [nmsA_eq, if_neg (by omega)] at e
      cases e; rfl
theorem nms_right (a b : ByteArray) : ∀ d j n, b.size - j ≤ d → nmsA (a ++ b) (a.size + j) n = nmsA b j n := by
  intro d
  induction d with
  | zero =>
    intro j n h
    rw [nmsA_eq, nmsA_eq b, if_neg (by rw [size_app]; omega), if_neg (by omega)]
  | succ d ih =>
    intro j n h
    by_cases hl : j < b.size
    · have h1 := dec_pos hl
      rw [nmsA_eq, nmsA_eq b, if_pos (by rw [size_app]; omega), if_pos hl, dec_right, Nat.add_assoc, ih _ _ (by omega)]
    · rw [nmsA_eq, nmsA_eq b, if_neg (by rw [size_app]; omega), if_neg hl]
theorem nms_none (s : ByteArray) : ∀ d i n m, nmsA s i n = none → s.size - i ≤ d → nmsA s i m = none := by
  intro d
  induction d with
  | zero => intro i n m e h; rw [nmsA_eq, if_neg (by omega)] at e; cases e
  | succ d ih =>
    intro i n m e h
    by_cases hl : i < s.size
    · have h1 := dec_pos hl
      rw [nmsA_eq, if_pos hl] at e ⊢
      split at e
      · rename_i hn
        rw [if_pos hn]
        exact ih _ _ _ e (by omega)
      · rename_i hn
        rw [if_neg hn]
    · rw [nmsA_eq, if_neg hl] at e; cases e
theorem nms_from (s : ByteArray) : ∀ d i n m, s.size - i ≤ d → nmsA s i 0 = some m → nmsA s i n = some (n + m) := by
  intro d
  induction d with
  | zero =>
    intro i n m h e
    rw [nmsA_eq, if_neg (by omega)] at e ⊢
    cases e; rfl
  | succ d ih =>
    intro i n m h e
    by_cases hl : i < s.size
    · rw [nmsA_eq, if_pos hl] at e ⊢
      split at e
      · rename_i hn
        rw [if_pos hn]
        have h1 := dec_pos hl
        obtain ⟨x, hx⟩ : ∃ x, nmsA s (i + (Utf8.decode s i).2) 0 = some x := by
          cases hx : nmsA s (i + (Utf8.decode s i).2) 0 with
          | some x => exact ⟨x, rfl⟩
          | none =>
            exfalso
            rw [nms_none s s.size _ 0 (0 + 1) hx (by omega)] at e
            cases e
        have e1 := ih _ 1 x (by omega) hx
        have e2 := ih _ (n + 1) x (by omega) hx
        rw [e2]
        rw [Nat.zero_add, e1] at e
        cases e
        congr 1; omega
      · cases e
    · rw [nmsA_eq, if_neg hl] at e ⊢
      cases e; rfl
/-- Two names one behind the other. -/
theorem both_names {a b : ByteArray} (ha : nameB a = true) (hb : nameB b = true) : ∃ m, chkA (a ++ b) 0 0 = (m, 0, 0) ∧ nameB (a ++ b) = decide (m ≤ 16) := by
  obtain ⟨x, hx, hx1, -⟩ := name_some ha
  obtain ⟨y, hy, -⟩ := name_some hb
  have h1 : nmsA (a ++ b) 0 0 = some (x + y) := by
    rw [nms_left a b a.size 0 0 x (by omega) (by omega) hx]
    have := nms_right a b b.size 0 x (by omega)
    rw [Nat.add_zero] at this
    rw [this]
    exact nms_from b b.size 0 x y (by omega) hy
  refine ⟨x + y, nms_chk _ _ 0 0 _ (Nat.le_refl _) h1, ?_⟩
  unfold nameB
  rw [h1]
  simp; omega
end Go.Proofs.YtidcbcljeofooaaGreatDoor
