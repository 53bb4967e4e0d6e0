/- Chapter 20, plain law: blanks ahead of a line and behind it, and twice as many between, change nothing (OrderBlanks). -/
import Derived.Test.YtidcbcljeofooaaGreatDoorOrC
namespace Go.Proofs.YtidcbcljeofooaaGreatDoor
open Go.Lib
abbrev mkB (L : List UInt8) : ByteArray := ⟨L.toArray⟩
theorem mkB_size (L : List UInt8) : (mkB L).size = L.length := by show L.toArray.size = _; simp
theorem mkB_list (L : List UInt8) : (mkB L).data.toList = L := by simp
theorem mkB_get (L : List UInt8) (i : Nat) : (mkB L).get! i = L.getD i 0 := by rw [← getD_get!', mkB_list]
theorem mkB_app (a b : List UInt8) : mkB (a ++ b) = mkB a ++ mkB b := by
  apply ByteArray.ext
  apply Array.ext'
  rw [ByteArray.data_append, Array.toList_append]
/-- The error of the check. -/
def ck (L : List UInt8) : Int := (chkA (mkB L) 0 0).2.2
theorem ck_nil : ck [] = 0 := by decide
theorem pos_of {L : List UInt8} (h : L ≠ []) : 0 < (mkB L).size := by rw [mkB_size]; exact List.length_pos_iff.2 h
theorem ck_bad {L : List UInt8} (h0 : L ≠ []) (h : Utf8.decode (mkB L) 0 = (65533, 1)) : ck L = 12 := by unfold ck; rw [chkA_bad (pos_of h0) h]
theorem ck_form {L : List UInt8} (h0 : L ≠ []) (h : Utf8.decode (mkB L) 0 ≠ (65533, 1)) (hf : (Utf8.decode (mkB L) 0).1 < 32 ∨ (Utf8.decode (mkB L) 0).1 = 127) : ck L = 4 := by unfold ck; rw [chkA_form (pos_of h0) h hf]
theorem ck_step {a r : List UInt8} (h0 : a ++ r ≠ []) (h : Utf8.decode (mkB (a ++ r)) 0 ≠ (65533, 1)) (hk : (Utf8.decode (mkB (a ++ r)) 0).2 = a.length) (hf : ¬ ((Utf8.decode (mkB (a ++ r)) 0).1 < 32 ∨ (Utf8.decode (mkB (a ++ r)) 0).1 = 127)) : ck (a ++ r) = ck r := by
  unfold ck
  rw [chkA_step (pos_of h0) h hf, hk, mkB_app]
  have h1 := (chk_right (mkB a) (mkB r) (mkB r).size 0 (0 + 1) (by omega)).2
  rw [mkB_size a] at h1
  rw [Nat.zero_add, show a.length = a.length + 0 by omega]
  rw [Nat.zero_add] at h1
  rw [h1, (chkA_add (mkB r) (mkB r).size 0 1 (by omega)).1]
theorem dec_low {c : UInt8} {t : List UInt8} (h : c.toNat < 128) : Utf8.decode (mkB (c :: t)) 0 = (c.toNat, 1) := by
  rw [decode_at]
  have e : (mkB (c :: t)).get! 0 = c := mkB_get _ 0
  rw [e]
  unfold decodeN
  rw [if_pos h]
theorem low_no {c : UInt8} {t : List UInt8} (h : c.toNat < 128) : Utf8.decode (mkB (c :: t)) 0 ≠ (65533, 1) := by
  rw [dec_low h]
  intro e
  have := congrArg Prod.fst e
  simp only at this
  omega
theorem ck_low {c : UInt8} {t : List UInt8} (h : c.toNat < 128) : ck (c :: t) = if c.toNat < 32 ∨ c.toNat = 127 then 4 else ck t := by
  by_cases hf : c.toNat < 32 ∨ c.toNat = 127
  · rw [if_pos hf]
    exact ck_form (by simp) (low_no h) (by rw [dec_low h]; exact hf)
  · rw [if_neg hf]
    exact ck_step (a := [c]) (by simp) (low_no h) (by rw [List.singleton_append, dec_low h]; rfl) (by rw [List.singleton_append, dec_low h]; exact hf)
/-- A blank more behind each. -/
def wdL : List UInt8 → List UInt8
  | [] => []
  | c :: t => if c = 32 then 32 :: 32 :: wdL t else c :: wdL t
theorem wdL_len (L : List UInt8) : (wdL L).length ≤ 2 * L.length := by
  induction L with
  | nil => simp [wdL]
  | cons c t ih => unfold wdL; split <;> (simp only [List.length_cons]; omega)
theorem wdL_app (a r : List UInt8) (h : ∀ c ∈ a, c ≠ 32) : wdL (a ++ r) = a ++ wdL r := by
  induction a with
  | nil => rfl
  | cons c a ih =>
    rw [List.cons_append, wdL, if_neg (h c (by simp)), ih (fun x hx => h x (by simp [hx]))]; rfl
theorem wdL_snoc (L : List UInt8) (c : UInt8) : wdL (L ++ [c]) = wdL L ++ (if c = 32 then [32, 32] else [c]) := by
  induction L with
  | nil => rw [List.nil_append, wdL, wdL]; split <;> rfl
  | cons x t ih =>
    rw [List.cons_append, wdL, wdL, ih]
    by_cases hx : x = 32
    · rw [if_pos hx, if_pos hx]; rfl
    · rw [if_neg hx, if_neg hx]; rfl
theorem wdL_pre : ∀ (a L e r : List UInt8), (∀ c ∈ a, c ≠ 32) → (e = [] ∨ e = [32]) → wdL L ++ e = a ++ r → ∃ r', L = a ++ r' := by
  intro a
  induction a with
  | nil => intro L e r _ _ _; exact ⟨L, rfl⟩
  | cons c a ih =>
    intro L e r h he hw
    have hc := h c (by simp)
    cases L with
    | nil =>
      rcases he with rfl | rfl
      · cases hw
      · simp [wdL] at hw
        exact absurd hw.1.symm hc
    | cons x t =>
      unfold wdL at hw
      by_cases hx : x = 32
      · rw [if_pos hx] at hw
        simp at hw
        exact absurd hw.1.symm hc
      · rw [if_neg hx] at hw
        simp only [List.cons_append, List.cons.injEq] at hw
        obtain ⟨r', e2⟩ := ih t e r (fun y hy => h y (by simp [hy])) he hw.2
        exact ⟨r', by rw [hw.1, e2]; rfl⟩
theorem high_ne {c : UInt8} (h : 128 ≤ c.toNat) : c ≠ 32 := by
  intro e; rw [e] at h; exact absurd h (by decide)
/-- The bytes of a long rune are no blanks. -/
theorem rune_split {c : UInt8} {t : List UInt8} (hc : 128 ≤ c.toNat) (h : Utf8.decode (mkB (c :: t)) 0 ≠ (65533, 1)) :
    ∃ a r, c :: t = a ++ r ∧ a.length = (Utf8.decode (mkB (c :: t)) 0).2 ∧ (∀ x ∈ a, x ≠ 32) ∧ 128 ≤ (Utf8.decode (mkB (c :: t)) 0).1 ∧ 0 < a.length := by
  have h0 : 0 < (mkB (c :: t)).size := pos_of (by simp)
  have hle := dec_le h0
  have hp := dec_pos h0
  rw [mkB_size] at hle
  have e0 : (mkB (c :: t)).get! 0 = c := mkB_get _ 0
  obtain ⟨k, hk⟩ : ∃ k, k = (Utf8.decode (mkB (c :: t)) 0).2 := ⟨_, rfl⟩
  rw [← hk] at hle hp
  have hl : ((c :: t).take k).length = k := by rw [List.length_take]; omega
  refine ⟨(c :: t).take k, (c :: t).drop k, (List.take_append_drop _ _).symm, by rw [hl, hk], fun x hx => ?_, ?_, by rw [hl]; omega⟩
  · obtain ⟨j, hj, rfl⟩ := List.mem_iff_getElem.1 hx
    rw [hl] at hj
    rw [List.getElem_take]
    by_cases hj0 : j = 0
    · subst hj0; exact high_ne hc
    · have h1 := dec_cont (k := j) h (by omega) (by omega)
      rw [Nat.zero_add, mkB_get, List.getD_eq_getElem?_getD, List.getElem?_eq_getElem (by omega), Option.getD_some] at h1
      exact high_ne (by omega)
  · rcases dec_shape h with ⟨h1, -⟩ | ⟨-, h2, -⟩
    · rw [e0] at h1; omega
    · exact h2
theorem dec_same {a r r' : List UInt8} (ha : 0 < a.length) (h : Utf8.decode (mkB (a ++ r)) 0 ≠ (65533, 1)) (hk : a.length = (Utf8.decode (mkB (a ++ r)) 0).2) : Utf8.decode (mkB (a ++ r')) 0 = Utf8.decode (mkB (a ++ r)) 0 := by
  refine dec_local h (by rw [← hk, mkB_size, List.length_append]; omega) (fun j hj => ?_) (by rw [mkB_size, List.length_append]; omega)
  rw [← hk] at hj
  rw [Nat.zero_add, mkB_get, mkB_get, List.getD_eq_getElem?_getD, List.getD_eq_getElem?_getD, List.getElem?_append_left hj, List.getElem?_append_left hj]
theorem ck_wd : ∀ (n : Nat) (L e : List UInt8), L.length ≤ n → (e = [] ∨ e = [32]) → ck (wdL L ++ e) = ck L := by
  intro n
  induction n with
  | zero =>
    intro L e hn he
    obtain rfl : L = [] := List.eq_nil_of_length_eq_zero (by omega)
    rcases he with rfl | rfl <;> decide
  | succ n ih =>
    intro L e hn he
    cases L with
    | nil => rcases he with rfl | rfl <;> decide
    | cons c t =>
      have hlt : t.length ≤ n := by simpa using hn
      by_cases hc : c.toNat < 128
      · by_cases h32 : c = 32
        · subst h32
          unfold wdL
          rw [if_pos rfl, List.cons_append, List.cons_append, ck_low (by decide), ck_low (by decide), ck_low (by decide), if_neg (by decide), if_neg (by decide), if_neg (by decide)]
          exact ih t e hlt he
        · unfold wdL
          rw [if_neg h32, List.cons_append, ck_low hc, ck_low hc, ih t e hlt he]
      · have hc2 : 128 ≤ c.toNat := by omega
        have hw : wdL (c :: t) ++ e = c :: (wdL t ++ e) := by rw [wdL, if_neg (high_ne hc2)]; rfl
        by_cases hv : Utf8.decode (mkB (c :: t)) 0 = (65533, 1)
        · rw [ck_bad (by simp) hv, hw]
          refine ck_bad (by simp) ?_
          by_cases hv2 : Utf8.decode (mkB (c :: (wdL t ++ e))) 0 = (65533, 1)
          · exact hv2
          · obtain ⟨a, r, e1, e2, e3, -, e4⟩ := rune_split hc2 hv2
            obtain ⟨r', e5⟩ := wdL_pre a (c :: t) e r e3 he (by rw [hw, e1])
            rw [e1] at hv2 e2
            have e6 := dec_same (r' := r') e4 hv2 e2
            rw [← e5, hv] at e6
            exact absurd e6.symm hv2
        · obtain ⟨a, r, e1, e2, e3, e7, e4⟩ := rune_split hc2 hv
          rw [e1] at hv e2 e7 ⊢
          have hlr : r.length ≤ n := by
            have := congrArg List.length e1
            simp only [List.length_cons, List.length_append] at this
            omega
          rw [wdL_app a r e3, List.append_assoc]
          have e6 := dec_same (r' := wdL r ++ e) e4 hv e2
          have hn1 : a ++ r ≠ [] := fun q => by rw [List.append_eq_nil_iff] at q; rw [q.1] at e4; cases e4
          have hn2 : a ++ (wdL r ++ e) ≠ [] := fun q => by rw [List.append_eq_nil_iff] at q; rw [q.1] at e4; cases e4
          rw [ck_step hn1 hv e2.symm (by omega), ck_step hn2 (by rw [e6]; exact hv) (by rw [e6, e2]) (by rw [e6]; omega)]
          exact ih r e hlr he
theorem bw_wd : ∀ (L : List UInt8) (q : Nat) (b : List UInt8) (l : List ByteArray), (q = 0 ∧ b = [] ∨ q = 1) → (∀ c ∈ L, c ≠ 34) → bw q b l (wdL L ++ [32]) = bw q b l L := by
  intro L
  induction L with
  | nil =>
    intro q b l hq _
    show bw q b l [32] = _
    rcases hq with ⟨rfl, rfl⟩ | rfl
    · rw [bw_blank 0 (.inl rfl), if_neg (by decide)]
    · rw [bw_blank 1 (.inr rfl), if_pos rfl]
      unfold bw
      simp
  | cons c t ih =>
    intro q b l hq hn
    have hc := hn c (by simp)
    have hn2 : ∀ x ∈ t, x ≠ 34 := fun x hx => hn x (by simp [hx])
    have hc2 : ¬ c.toNat = 34 := fun e => hc (UInt8.toNat_inj.1 e)
    unfold wdL
    by_cases h32 : c = 32
    · subst h32
      rw [if_pos rfl, List.cons_append, List.cons_append]
      rcases hq with ⟨rfl, rfl⟩ | rfl
      · rw [bw_blank 0 (.inl rfl), if_neg (by decide), bw_blank 0 (.inl rfl), if_neg (by decide), bw_blank 0 (.inl rfl), if_neg (by decide)]
        exact ih 0 [] l (.inl ⟨rfl, rfl⟩) hn2
      · rw [bw_blank 1 (.inr rfl), if_pos rfl, bw_blank 0 (.inl rfl), if_neg (by decide), bw_blank 1 (.inr rfl), if_pos rfl]
        exact ih 0 [] _ (.inl ⟨rfl, rfl⟩) hn2
    · have h33 : ¬ c.toNat = 32 := fun e => h32 (UInt8.toNat_inj.1 e)
      rw [if_neg h32, List.cons_append]
      rcases hq with ⟨rfl, rfl⟩ | rfl
      · rw [bw_on (q' := 1) (b' := [c]) (l' := l) (by unfold wstep; simp [h33, hc2]), bw_on (q := 0) (q' := 1) (b' := [c]) (l' := l) (by unfold wstep; simp [h33, hc2])]
        exact ih 1 _ l (.inr rfl) hn2
      · rw [bw_on (q' := 1) (b' := b ++ [c]) (l' := l) (by unfold wstep; simp [h33, hc2]), bw_on (q := 1) (q' := 1) (b' := b ++ [c]) (l' := l) (by unfold wstep; simp [h33, hc2])]
        exact ih 1 _ l (.inr rfl) hn2
/-- The wide line. -/
def wideL (L : List UInt8) : List UInt8 := 32 :: 32 :: (wdL L ++ [32])
theorem blanks_law (s : ByteArray) (hs : s.size ≤ 252) (hq : ∀ c ∈ s.data.toList, c ≠ 34) : lineP (mkB (wideL s.data.toList)) = lineP s := by
  have hl : s.data.toList.length = s.size := by simp
  have hw := wdL_len s.data.toList
  refine lineP_same ?_ (by omega) ?_ ?_
  · rw [mkB_size]; unfold wideL; simp only [List.length_cons, List.length_append, List.length_nil]; omega
  · show ck (wideL s.data.toList) = _
    unfold wideL
    rw [ck_low (by decide), if_neg (by decide), ck_low (by decide), if_neg (by decide), ck_wd _ _ _ (Nat.le_refl _) (.inr rfl)]
    have e : mkB s.data.toList = s := mk_toList s
    unfold ck
    rw [e]
  · unfold cutW
    rw [mkB_list]
    unfold wideL
    rw [bw_blank 0 (.inl rfl), if_neg (by decide), bw_blank 0 (.inl rfl), if_neg (by decide)]
    exact bw_wd _ 0 [] [] (.inl ⟨rfl, rfl⟩) hq
end Go.Proofs.YtidcbcljeofooaaGreatDoor
