/- Chapter 1, plain law: texts as runes, by the model's own decode. -/
import Derived.Lib.RuneCountTail
import Derived.Lib.QuoteLoop
namespace Go.Proofs.YtidcbcljeofooaaGreatDoor
open Go.Lib
/-- From place i on, n runes being counted: how many runes, the first fault's place, the error. -/
def chk (s : ByteArray) : Nat → Nat → Nat → Nat × Nat × Int
  | 0, _, n => (n, 0, 0)
  | f + 1, i, n => if i < s.size then
      (if Utf8.decode s i = (65533, 1) then (0, i, 12) else if (Utf8.decode s i).1 < 32 ∨ (Utf8.decode s i).1 = 127 then (0, i, 4) else chk s f (i + (Utf8.decode s i).2) (n + 1))
    else (n, 0, 0)
theorem dec_pos {s : ByteArray} {i : Nat} (h : i < s.size) : 1 ≤ (Utf8.decode s i).2 := decode_width_pos s i h
theorem dec_le {s : ByteArray} {i : Nat} (h : i < s.size) : i + (Utf8.decode s i).2 ≤ s.size := by
  have := decodeN_width_le (s.size - i) (s.get! i).toNat (s.get! (i + 1)).toNat (s.get! (i + 2)).toNat (s.get! (i + 3)).toNat (by omega)
  rw [← decode_at] at this
  omega
theorem chk_fuel (s : ByteArray) : ∀ f g i n, s.size - i ≤ f → s.size - i ≤ g → chk s f i n = chk s g i n
  | 0, 0, _, _, _, _ => rfl
  | 0, g + 1, i, n, h, _ => by unfold chk; rw [if_neg (by omega)]
  | f + 1, 0, i, n, _, h => by unfold chk; rw [if_neg (by omega)]
  | f + 1, g + 1, i, n, h1, h2 => by
    unfold chk
    by_cases hi : i < s.size
    · have := dec_pos hi
      rw [chk_fuel s f g (i + (Utf8.decode s i).2) (n + 1) (by omega) (by omega)]
    · rw [if_neg hi, if_neg hi]
def chkA (s : ByteArray) (i n : Nat) : Nat × Nat × Int := chk s s.size i n
section
variable {s : ByteArray} {i n : Nat}
theorem chkA_eq (s : ByteArray) (i n : Nat) : chkA s i n = if i < s.size then
      (if Utf8.decode s i = (65533, 1) then (0, i, 12) else if (Utf8.decode s i).1 < 32 ∨ (Utf8.decode s i).1 = 127 then (0, i, 4) else chkA s (i + (Utf8.decode s i).2) (n + 1))
    else (n, 0, 0) := by
  unfold chkA
  by_cases hi : i < s.size
  · have h1 := dec_pos hi
    obtain ⟨f, hf⟩ : ∃ f, s.size = f + 1 := ⟨s.size - 1, by omega⟩
    rw [if_pos hi]
    have h2 : chk s s.size i n = chk s (f + 1) i n := by rw [hf]
    rw [h2, chk_fuel s s.size f (i + (Utf8.decode s i).2) (n + 1) (by omega) (by omega)]
    conv => lhs; unfold chk
    rw [if_pos hi]
  · rw [if_neg hi]
    cases s.size with
    | zero => rfl
    | succ f =>
      unfold chk
      rw [if_neg hi]
theorem chkA_end (h : ¬ i < s.size) : chkA s i n = (n, 0, 0) := by rw [chkA_eq, if_neg h]
theorem chkA_bad (h : i < s.size) (hd : Utf8.decode s i = (65533, 1)) : chkA s i n = (0, i, 12) := by rw [chkA_eq, if_pos h, if_pos hd]
theorem chkA_form (h : i < s.size) (hd : Utf8.decode s i ≠ (65533, 1)) (hf : (Utf8.decode s i).1 < 32 ∨ (Utf8.decode s i).1 = 127) : chkA s i n = (0, i, 4) := by rw [chkA_eq, if_pos h, if_neg hd, if_pos hf]
theorem chkA_step (h : i < s.size) (hd : Utf8.decode s i ≠ (65533, 1)) (hf : ¬ ((Utf8.decode s i).1 < 32 ∨ (Utf8.decode s i).1 = 127)) : chkA s i n = chkA s (i + (Utf8.decode s i).2) (n + 1) := by rw [chkA_eq, if_pos h, if_neg hd, if_neg hf]
end
/-- What the count began with is added; errors do not hang on it. -/
theorem chkA_add (s : ByteArray) : ∀ d i n, s.size - i ≤ d → (chkA s i n).2 = (chkA s i 0).2 ∧ ((chkA s i n).2.2 = 0 → (chkA s i n).1 = n + (chkA s i 0).1) ∧ ((chkA s i n).2.2 ≠ 0 → (chkA s i n).1 = 0) := by
  intro d
  induction d with
  | zero => intro i n h; rw [chkA_end (by omega), chkA_end (by omega)]; simp
  | succ d ih =>
    intro i n h
    by_cases hi : i < s.size
    · by_cases hd : Utf8.decode s i = (65533, 1)
      · rw [chkA_bad hi hd, chkA_bad hi hd]; simp
      · by_cases hf : (Utf8.decode s i).1 < 32 ∨ (Utf8.decode s i).1 = 127
        · rw [chkA_form hi hd hf, chkA_form hi hd hf]; simp
        · have := dec_pos hi
          rw [chkA_step hi hd hf, chkA_step (n := 0) hi hd hf]
          obtain ⟨a1, a2, a3⟩ := ih (i + (Utf8.decode s i).2) (n + 1) (by omega)
          obtain ⟨b1, b2, b3⟩ := ih (i + (Utf8.decode s i).2) (0 + 1) (by omega)
          refine ⟨by rw [a1, b1], fun h0 => ?_, a3⟩
          rw [a2 h0, b2 (by rw [b1, ← a1]; exact h0)]
          omega
    · rw [chkA_end hi, chkA_end hi]; simp
theorem get_app (a b : ByteArray) (i : Nat) : (a ++ b).get! i = if i < a.size then a.get! i else b.get! (i - a.size) := by
  rw [← getD_get!', ← getD_get!', ← getD_get!']
  have : (a ++ b).data.toList = a.data.toList ++ b.data.toList := by rw [ByteArray.data_append, Array.toList_append]
  rw [this]
  have h2 : a.data.toList.length = a.size := by simp
  split
  · rename_i h
    simp [List.getD, List.getElem?_append_left (h2 ▸ h)]
  · rename_i h
    simp only [List.getD]
    rw [List.getElem?_append_right (by omega), h2]
theorem size_app (a b : ByteArray) : (a ++ b).size = a.size + b.size := by simp
/-- A rune hangs on its own bytes alone. -/
theorem decodeN_local {n m b0 b1 b2 b3 c1 c2 c3 : Nat} (h : decodeN n b0 b1 b2 b3 ≠ (65533, 1)) (hm : (decodeN n b0 b1 b2 b3).2 ≤ m)
    (h1 : 1 < (decodeN n b0 b1 b2 b3).2 → c1 = b1) (h2 : 2 < (decodeN n b0 b1 b2 b3).2 → c2 = b2) (h3 : 3 < (decodeN n b0 b1 b2 b3).2 → c3 = b3) : decodeN m b0 c1 c2 c3 = decodeN n b0 b1 b2 b3 := by
  generalize hg : decodeN n b0 b1 b2 b3 = g at *
  unfold decodeN at hg
  split at hg
  · rename_i q; subst hg; simp [decodeN, q]
  · rename_i q
    split at hg
    · rename_i q1
      split at hg
      · rename_i q2
        subst hg
        obtain rfl := h1 (by simp)
        simp only at hm
        unfold decodeN
        rw [if_neg q, if_pos ⟨q1.1, by omega, q1.2.2⟩, if_pos q2]
      · exact absurd hg.symm h
    · rename_i q1
      split at hg
      · rename_i q2
        split at hg
        · rename_i q3
          subst hg
          obtain rfl := h1 (by simp)
          obtain rfl := h2 (by simp)
          simp only at hm
          unfold decodeN
          rw [if_neg q, if_neg (by omega), if_pos ⟨q2.1, ⟨by omega, q2.2.1.2⟩, by omega, q2.2.2.2⟩, if_pos q3]
        · exact absurd hg.symm h
      · rename_i q2
        split at hg
        · rename_i q3
          split at hg
          · rename_i q4
            subst hg
            obtain rfl := h1 (by simp)
            obtain rfl := h2 (by simp)
            obtain rfl := h3 (by simp)
            simp only at hm
            unfold decodeN
            rw [if_neg q, if_neg (by omega), if_neg (by omega), if_pos ⟨q3.1, ⟨by omega, q3.2.1.2⟩, ⟨by omega, q3.2.2.1.2⟩, by omega, q3.2.2.2.2⟩, if_pos q4]
          · exact absurd hg.symm h
        · exact absurd hg.symm h
theorem dec_local {s t : ByteArray} {i j : Nat} (h : Utf8.decode s i ≠ (65533, 1)) (hm : (Utf8.decode s i).2 ≤ t.size - j) (hb : ∀ k, k < (Utf8.decode s i).2 → t.get! (j + k) = s.get! (i + k)) (hi : i < s.size) : Utf8.decode t j = Utf8.decode s i := by
  have h0 := hb 0 (dec_pos hi)
  rw [Nat.add_zero, Nat.add_zero] at h0
  have hb1 := hb 1
  have hb2 := hb 2
  have hb3 := hb 3
  rw [decode_at s] at h hm hb1 hb2 hb3 ⊢
  rw [decode_at t, h0]
  exact decodeN_local h hm (fun e => by rw [hb1 e]) (fun e => by rw [hb2 e]) (fun e => by rw [hb3 e])
theorem dec_left {a b : ByteArray} {i : Nat} (hi : i < a.size) (h : Utf8.decode a i ≠ (65533, 1)) : Utf8.decode (a ++ b) i = Utf8.decode a i := by
  have := dec_le hi
  refine dec_local h (by rw [size_app]; omega) (fun k hk => ?_) hi
  rw [get_app, if_pos (by omega)]
theorem dec_left' {a b : ByteArray} {i : Nat} (hi : i < a.size) (h : Utf8.decode (a ++ b) i ≠ (65533, 1)) (hl : i + (Utf8.decode (a ++ b) i).2 ≤ a.size) : Utf8.decode a i = Utf8.decode (a ++ b) i := by
  refine dec_local h (by omega) (fun k hk => ?_) (by rw [size_app]; omega)
  rw [get_app, if_pos (by omega)]
theorem dec_right (a b : ByteArray) (j : Nat) : Utf8.decode (a ++ b) (a.size + j) = Utf8.decode b j := by
  rw [decode_at, decode_at, size_app]
  have : ∀ k, (a ++ b).get! (a.size + k) = b.get! k := fun k => by rw [get_app, if_neg (by omega)]; congr 1; omega
  rw [Nat.add_assoc, Nat.add_assoc, Nat.add_assoc, this, this, this, this]
  congr 1
  omega
theorem chk_left (a b : ByteArray) : ∀ d i n, a.size - i ≤ d → i ≤ a.size → (chkA a i n).2.2 = 0 → chkA (a ++ b) i n = chkA (a ++ b) a.size (chkA a i n).1 := by
  intro d
  induction d with
  | zero =>
    intro i n h hi _
    obtain rfl : i = a.size := by omega
    rw [chkA_end (s := a) (by omega)]
  | succ d ih =>
    intro i n h hi h0
    by_cases hl : i < a.size
    · by_cases hd : Utf8.decode a i = (65533, 1)
      · rw [chkA_bad hl hd] at h0; cases h0
      · by_cases hf : (Utf8.decode a i).1 < 32 ∨ (Utf8.decode a i).1 = 127
        · rw [chkA_form hl hd hf] at h0; cases h0
        · have h1 := dec_pos hl
          have h2 := dec_le hl
          have h3 := dec_left (b := b) hl hd
          rw [chkA_step hl hd hf] at h0
          rw [chkA_step (s := a) hl hd hf, chkA_step (s := a ++ b) (by rw [size_app]; omega) (by rw [h3]; exact hd) (by rw [h3]; exact hf), h3]
          exact ih _ _ (by omega) (by omega) h0
    · obtain rfl : i = a.size := by omega
      rw [chkA_end (s := a) (by omega)]
theorem chk_right (a b : ByteArray) : ∀ d j n, b.size - j ≤ d → (chkA (a ++ b) (a.size + j) n).1 = (chkA b j n).1 ∧ (chkA (a ++ b) (a.size + j) n).2.2 = (chkA b j n).2.2 := by
  intro d
  induction d with
  | zero =>
    intro j n h
    rw [chkA_end (s := b) (by omega), chkA_end (by rw [size_app]; omega)]; exact ⟨rfl, rfl⟩
  | succ d ih =>
    intro j n h
    by_cases hl : j < b.size
    · have e := dec_right a b j
      by_cases hd : Utf8.decode b j = (65533, 1)
      · rw [chkA_bad hl hd, chkA_bad (by rw [size_app]; omega) (by rw [e]; exact hd)]; exact ⟨rfl, rfl⟩
      · by_cases hf : (Utf8.decode b j).1 < 32 ∨ (Utf8.decode b j).1 = 127
        · rw [chkA_form hl hd hf, chkA_form (by rw [size_app]; omega) (by rw [e]; exact hd) (by rw [e]; exact hf)]; exact ⟨rfl, rfl⟩
        · have h1 := dec_pos hl
          rw [chkA_step hl hd hf, chkA_step (s := a ++ b) (by rw [size_app]; omega) (by rw [e]; exact hd) (by rw [e]; exact hf), e, Nat.add_assoc]
          exact ih _ _ (by omega)
    · rw [chkA_end (s := b) hl, chkA_end (by rw [size_app]; omega)]; exact ⟨rfl, rfl⟩
/-- The bytes behind the first of a rune go on, those that begin one do not. -/
theorem decodeN_cont {n b0 b1 b2 b3 k : Nat} (h : decodeN n b0 b1 b2 b3 ≠ (65533, 1)) (hk : 0 < k) (hk2 : k < (decodeN n b0 b1 b2 b3).2) : (k = 1 ∧ b1 / 64 = 2) ∨ (k = 2 ∧ b2 / 64 = 2) ∨ (k = 3 ∧ b3 / 64 = 2) := by
  generalize hg : decodeN n b0 b1 b2 b3 = g at *
  unfold decodeN at hg
  repeat' split at hg
  all_goals subst hg
  all_goals first | exact absurd rfl h | (simp only at hk2; omega)
theorem dec_first {s : ByteArray} {i : Nat} (h : Utf8.decode s i ≠ (65533, 1)) : (s.get! i).toNat / 64 ≠ 2 := by
  intro e
  apply h
  rw [decode_at]
  unfold decodeN
  rw [if_neg (by omega), if_neg (by omega), if_neg (by omega), if_neg (by omega)]
theorem dec_cont {s : ByteArray} {i k : Nat} (h : Utf8.decode s i ≠ (65533, 1)) (hk : 0 < k) (hk2 : k < (Utf8.decode s i).2) : (s.get! (i + k)).toNat / 64 = 2 := by
  rw [decode_at] at h hk2
  rcases decodeN_cont h hk hk2 with ⟨rfl, e⟩ | ⟨rfl, e⟩ | ⟨rfl, e⟩ <;> exact e
theorem chk_back (a b : ByteArray) (hb : b.size = 0 ∨ (b.get! 0).toNat / 64 ≠ 2) : ∀ d i n, a.size - i ≤ d → i ≤ a.size → (chkA (a ++ b) i n).2.2 = 0 → (chkA a i n).2.2 = 0 := by
  intro d
  induction d with
  | zero => intro i n h hi _; rw [chkA_end (by omega)]
  | succ d ih =>
    intro i n h hi h0
    by_cases hl : i < a.size
    · have hl2 : i < (a ++ b).size := by rw [size_app]; omega
      by_cases hd : Utf8.decode (a ++ b) i = (65533, 1)
      · rw [chkA_bad hl2 hd] at h0; cases h0
      · by_cases hf : (Utf8.decode (a ++ b) i).1 < 32 ∨ (Utf8.decode (a ++ b) i).1 = 127
        · rw [chkA_form hl2 hd hf] at h0; cases h0
        · have h1 := dec_pos hl2
          have h5 := dec_le hl2
          rw [size_app] at h5
          have h2 : i + (Utf8.decode (a ++ b) i).2 ≤ a.size := by
            rcases Nat.lt_or_ge a.size (i + (Utf8.decode (a ++ b) i).2) with h3 | h3
            · exfalso
              have h4 := dec_cont (k := a.size - i) hd (by omega) (by omega)
              rw [show i + (a.size - i) = a.size by omega, get_app, if_neg (by omega), Nat.sub_self] at h4
              rcases hb with hb | hb
              · omega
              · exact hb h4
            · exact h3
          have h3 := dec_left' hl hd h2
          rw [chkA_step hl2 hd hf] at h0
          rw [chkA_step (s := a) hl (by rw [h3]; exact hd) (by rw [h3]; exact hf), h3]
          exact ih _ _ (by omega) h2 h0
    · rw [chkA_end (s := a) (by omega)]
/-- RunesBoth's law. -/
theorem both_ok (a b : ByteArray) (h1 : (chkA a 0 0).2.2 = 0) (h2 : (chkA b 0 0).2.2 = 0) : (chkA (a ++ b) 0 0).2.2 = 0 ∧ (chkA (a ++ b) 0 0).1 = (chkA a 0 0).1 + (chkA b 0 0).1 := by
  have e1 := chk_left a b a.size 0 0 (by omega) (by omega) h1
  have e2 := chk_right a b b.size 0 (chkA a 0 0).1 (by omega)
  rw [Nat.add_zero] at e2
  obtain ⟨a1, a2, -⟩ := chkA_add b b.size 0 (chkA a 0 0).1 (by omega)
  have h3 : (chkA b 0 (chkA a 0 0).1).2.2 = 0 := by rw [a1]; exact h2
  rw [e1]
  exact ⟨by rw [e2.2]; exact h3, by rw [e2.1]; exact a2 h3⟩
theorem both_bad (a b : ByteArray) (h : (chkA a 0 0).2.2 ≠ 0 ∨ (chkA b 0 0).2.2 ≠ 0) : (chkA (a ++ b) 0 0).1 = 0 ∨ ((chkA a 0 0).2.2 ≠ 0 ∧ (chkA b 0 0).2.2 ≠ 0 ∧ (chkA (a ++ b) 0 0).2.2 = 0) := by
  by_cases hz : (chkA (a ++ b) 0 0).2.2 = 0
  · right
    by_cases ha : (chkA a 0 0).2.2 = 0
    · exfalso
      have hb : (chkA b 0 0).2.2 ≠ 0 := h.resolve_left (fun e => e ha)
      have e1 := chk_left a b a.size 0 0 (by omega) (by omega) ha
      have e2 := chk_right a b b.size 0 (chkA a 0 0).1 (by omega)
      rw [Nat.add_zero] at e2
      obtain ⟨a1, -, -⟩ := chkA_add b b.size 0 (chkA a 0 0).1 (by omega)
      rw [e1, e2.2, a1] at hz
      exact hb hz
    · refine ⟨ha, fun hb => ha ?_, hz⟩
      refine chk_back a b ?_ a.size 0 0 (by omega) (by omega) hz
      by_cases h0 : 0 < b.size
      · right
        apply dec_first
        intro hd
        rw [chkA_bad h0 hd] at hb
        cases hb
      · left; omega
  · left
    exact (chkA_add (a ++ b) (a ++ b).size 0 0 (by omega)).2.2 hz
/-- The runes of a name. -/
def inName (r : Nat) : Bool := (97 ≤ r && r ≤ 122) || (48 ≤ r && r ≤ 57) || r == 45 || r == 95 || (945 ≤ r && r ≤ 969)
def nms (s : ByteArray) : Nat → Nat → Nat → Option Nat
  | 0, _, n => some n
  | f + 1, i, n => if i < s.size then (if inName (Utf8.decode s i).1 = true then nms s f (i + (Utf8.decode s i).2) (n + 1) else none) else some n
theorem nms_fuel (s : ByteArray) : ∀ f g i n, s.size - i ≤ f → s.size - i ≤ g → nms s f i n = nms s g i n
  | 0, 0, _, _, _, _ => rfl
  | 0, g + 1, i, n, h, _ => by unfold nms; rw [if_neg (by omega)]
  | f + 1, 0, i, n, _, h => by unfold nms; rw [if_neg (by omega)]
  | f + 1, g + 1, i, n, h1, h2 => by
    unfold nms
    by_cases hi : i < s.size
    · have := dec_pos hi
      rw [nms_fuel s f g (i + (Utf8.decode s i).2) (n + 1) (by omega) (by omega)]
    · rw [if_neg hi, if_neg hi]
def nmsA (s : ByteArray) (i n : Nat) : Option Nat := nms s s.size i n
theorem nmsA_eq (s : ByteArray) (i n : Nat) : nmsA s i n = if i < s.size then (if inName (Utf8.decode s i).1 = true then nmsA s (i + (Utf8.decode s i).2) (n + 1) else none) else some n := by
  unfold nmsA
  by_cases hi : i < s.size
  · have h1 := dec_pos hi
    obtain ⟨f, hf⟩ : ∃ f, s.size = f + 1 := ⟨s.size - 1, by omega⟩
    rw [if_pos hi]
    have h2 : nms s s.size i n = nms s (f + 1) i n := by rw [hf]
    rw [h2, nms_fuel s s.size f (i + (Utf8.decode s i).2) (n + 1) (by omega) (by omega)]
    conv => lhs; unfold nms
    rw [if_pos hi]
  · rw [if_neg hi]
    cases s.size with
    | zero => rfl
    | succ f =>
      unfold nms
      rw [if_neg hi]
theorem inName_ok {r : Nat} (h : inName r = true) : r ≠ 65533 ∧ ¬ (r < 32 ∨ r = 127) := by
  unfold inName at h
  simp only [Bool.or_eq_true, Bool.and_eq_true, decide_eq_true_eq, beq_iff_eq] at h
  omega
/-- Where all runes are a name's the text is one. -/
theorem nms_chk (s : ByteArray) : ∀ d i n m, s.size - i ≤ d → nmsA s i n = some m → chkA s i n = (m, 0, 0) := by
  intro d
  induction d with
  | zero =>
    intro i n m h e
    rw [nmsA_eq, if_neg (by omega)] at e
    cases e
    rw [chkA_end (by omega)]
  | succ d ih =>
    intro i n m h e
    rw [nmsA_eq] at e
    by_cases hi : i < s.size
    · rw [if_pos hi] at e
      split at e
      · rename_i hn
        obtain ⟨h1, h2⟩ := inName_ok hn
        have := dec_pos hi
        rw [chkA_step hi (fun hd => h1 (by rw [hd])) h2]
        exact ih _ _ _ (by omega) e
      · cases e
    · rw [if_neg hi] at e
      cases e
      rw [chkA_end hi]
def nameB (s : ByteArray) : Bool := match nmsA s 0 0 with | some m => decide (1 ≤ m) && decide (m ≤ 16) | none => false
end Go.Proofs.YtidcbcljeofooaaGreatDoor
