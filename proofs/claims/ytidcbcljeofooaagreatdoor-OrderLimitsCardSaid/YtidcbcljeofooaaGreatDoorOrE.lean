/- Chapter 20, plain law: a command's line; what is printed is parsed to what it was. -/
import Derived.Test.YtidcbcljeofooaaGreatDoorOrD
import Derived.Lib.ItoaNum
namespace Go.Proofs.YtidcbcljeofooaaGreatDoor
open Go.Lib
/-- A number's digits. -/
abbrev dgT (n : Int) : List UInt8 := itoa n
theorem dec_ne (u : Nat) : decDigits u ≠ [] := fun h => by
  have := decDigits_length u
  rw [h] at this
  have h2 := nDigits_pos u
  simp at this
  omega
theorem toNat_48 {k : Nat} (h : k < 10) : (UInt8.ofNat (48 + k)).toNat = 48 + k := by
  rw [UInt8.toNat_ofNat']
  omega
theorem dec_digs (u : Nat) : (decDigits u).all isD = true := by
  induction u using Nat.strongRecOn with
  | _ u ih =>
    rw [decDigits]
    split
    · rename_i h
      simp only [List.all_cons, List.all_nil, Bool.and_true]
      rw [isD_iff, toNat_48 h]; omega
    · rename_i h
      rw [List.all_append, ih (u / 10) (by omega)]
      simp only [List.all_cons, List.all_nil, Bool.and_true, Bool.true_and]
      rw [isD_iff, toNat_48 (Nat.mod_lt _ (by omega))]
      have := Nat.mod_lt u (show 0 < 10 by omega)
      omega
theorem dec_val (u : Nat) : valD (decDigits u) = u := by
  induction u using Nat.strongRecOn with
  | _ u ih =>
    rw [decDigits]
    split
    · rename_i h
      have : valD [UInt8.ofNat (48 + u)] = 10 * 0 + ((UInt8.ofNat (48 + u)).toNat - 48) := rfl
      rw [this, toNat_48 h]; omega
    · rename_i h
      rw [valD_snoc, ih (u / 10) (by omega), toNat_48 (Nat.mod_lt _ (by omega))]
      omega
theorem dec_lead (u : Nat) : (decDigits u).length = 1 ∨ (decDigits u).getD 0 0 ≠ 48 := by
  induction u using Nat.strongRecOn with
  | _ u ih =>
    rw [decDigits]
    split
    · left; rfl
    · rename_i h
      right
      have hne := dec_ne (u / 10)
      have hl : 0 < (decDigits (u / 10)).length := List.length_pos_iff.2 hne
      rw [List.getD_eq_getElem?_getD, List.getElem?_append_left hl, ← List.getD_eq_getElem?_getD]
      rcases ih (u / 10) (by omega) with q | q
      · by_cases h2 : u / 10 < 10
        · rw [decDigits, dif_pos h2]
          intro e
          have e2 : (UInt8.ofNat (48 + u / 10)).toNat = 48 := by
            have : UInt8.ofNat (48 + u / 10) = 48 := e
            rw [this]; rfl
          rw [toNat_48 h2] at e2
          omega
        · rw [decDigits, dif_neg h2] at q
          rw [List.length_append] at q
          have := List.length_pos_iff.2 (dec_ne (u / 10 / 10))
          simp at q
          exact absurd q (dec_ne _)
      · exact q
theorem dec_len {u : Nat} (h : u < 10000000000000) : (decDigits u).length ≤ 13 := by
  rw [decDigits_length]
  rcases Nat.lt_or_ge 13 (nDigits u) with q | q
  · exfalso
    have : ∀ v, 1 < nDigits v → 10 ^ (nDigits v - 1) ≤ v := by
      intro v
      induction v using Nat.strongRecOn with
      | _ v ih =>
        intro hv
        by_cases h10 : v < 10
        · rw [nDigits_small h10] at hv; omega
        · rw [nDigits_big h10] at hv ⊢
          by_cases h1 : 1 < nDigits (v / 10)
          · have := ih (v / 10) (by omega) h1
            rw [show nDigits (v / 10) + 1 - 1 = (nDigits (v / 10) - 1) + 1 by omega, Nat.pow_succ]
            omega
          · have : nDigits (v / 10) = 1 := by have := nDigits_pos (v / 10); omega
            rw [this]; omega
    have h1 := this u (by omega)
    have h2 : 10 ^ 13 ≤ 10 ^ (nDigits u - 1) := Nat.pow_le_pow_right (by omega) (by omega)
    omega
  · exact q
theorem numP_dec {u : Nat} (h : u < 10000000000000) : numP (decDigits u) = some u := by
  have hok : okN (decDigits u) = true := (okN_iff _).2 ⟨dec_digs u, List.length_pos_iff.2 (dec_ne u), dec_len h, dec_lead u⟩
  rw [numP_ok hok, dec_val]
theorem itoa_nat (u : Nat) : itoa (u : Int) = decDigits u := by
  unfold itoa
  rw [if_neg (by omega)]
  simp
theorem numP_dg {n : Int} (h0 : 0 ≤ n) (h : n < 10000000000000) : numP (dgT n) = some n.toNat := by
  obtain ⟨u, rfl⟩ := Int.eq_ofNat_of_zero_le h0
  rw [dgT, itoa_nat, Int.toNat_natCast]
  exact numP_dec (by omega)
theorem wn_dg {n : Int} (h0 : 0 ≤ n) (h : n < 10000000000000) : (numP (dgT n)).map (fun n : Nat => (n : Int)) = some n := by
  rw [numP_dg h0 h, Option.map_some, Int.toNat_of_nonneg h0]
/-- A number has one numeral. -/
theorem digits_one : ∀ (k : Nat) (l m : List UInt8), l.length ≤ k → l.all isD = true → m.all isD = true → l ≠ [] → m ≠ [] → (l.length = 1 ∨ l.getD 0 0 ≠ 48) → (m.length = 1 ∨ m.getD 0 0 ≠ 48) → valD l = valD m → l = m := by
  have snoc : ∀ l : List UInt8, l ≠ [] → ∃ a c, l = a ++ [c] := fun l h => ⟨l.dropLast, l.getLast h, (List.dropLast_concat_getLast h).symm⟩
  have big : ∀ (n : Nat) (l : List UInt8), l.length ≤ n → l.all isD = true → 1 ≤ l.length → l.getD 0 0 ≠ 48 → 1 ≤ valD l := by
    intro n
    induction n with
    | zero => intro l h _ h1; omega
    | succ n ih =>
      intro l hn hd h1 h0
      obtain ⟨a, c, rfl⟩ := snoc l (List.length_pos_iff.1 h1)
      rw [valD_snoc]
      rw [List.all_append, Bool.and_eq_true] at hd
      cases a with
      | nil =>
        have hc : isD c = true := by simpa using hd.2
        rw [isD_iff] at hc
        have : c.toNat ≠ 48 := fun e => h0 (by show c = 48; exact UInt8.toNat_inj.1 e)
        omega
      | cons x t =>
        have := ih (x :: t) (by rw [List.length_append] at hn; simp at hn ⊢; omega) hd.1 (by simp) h0
        omega
  intro k
  induction k with
  | zero => intro l m h _ _ hl; exact absurd (List.eq_nil_of_length_eq_zero (by omega)) hl
  | succ k ih =>
    intro l m hk hl hm nl nm cl cm hv
    obtain ⟨a, x, rfl⟩ := snoc l nl
    obtain ⟨b, y, rfl⟩ := snoc m nm
    rw [List.all_append, Bool.and_eq_true] at hl hm
    have hx : isD x = true := by simpa using hl.2
    have hy : isD y = true := by simpa using hm.2
    rw [isD_iff] at hx hy
    rw [valD_snoc, valD_snoc] at hv
    have e1 : valD a = valD b := by omega
    have e2 : x = y := UInt8.toNat_inj.1 (by omega)
    subst e2
    congr 1
    have lead : ∀ (a : List UInt8), a ≠ [] → ((a ++ [x]).length = 1 ∨ (a ++ [x]).getD 0 0 ≠ 48) → a.getD 0 0 ≠ 48 := fun a ha h => by
      have hp := List.length_pos_iff.2 ha
      rcases h with q | q
      · rw [List.length_append] at q; simp at q; exact absurd q ha
      · rw [List.getD_eq_getElem?_getD, List.getElem?_append_left hp, ← List.getD_eq_getElem?_getD] at q; exact q
    by_cases ha : a = []
    · by_cases hb : b = []
      · rw [ha, hb]
      · have := big _ b (Nat.le_refl _) hm.1 (List.length_pos_iff.2 hb) (lead b hb cm)
        rw [ha] at e1
        have e0 : valD [] = 0 := rfl
        omega
    · by_cases hb : b = []
      · have := big _ a (Nat.le_refl _) hl.1 (List.length_pos_iff.2 ha) (lead a ha cl)
        rw [hb] at e1
        have e0 : valD [] = 0 := rfl
        omega
      · exact ih a b (by rw [List.length_append] at hk; simp at hk; omega) hl.1 hm.1 ha hb (.inr (lead a ha cl)) (.inr (lead b hb cm)) e1
theorem dec_of {l : List UInt8} {n : Nat} (h : numP l = some n) : l = decDigits n := by
  obtain ⟨hok, rfl⟩ := numP_some h
  obtain ⟨h1, h2, h3, h4⟩ := (okN_iff l).1 hok
  exact digits_one l.length l _ (Nat.le_refl _) h1 (dec_digs _) (fun e => by rw [e] at h2; cases h2) (dec_ne _) h4 (dec_lead _) (dec_val _).symm
/-- A vector's word; a list's. -/
def vecT (v : V) : List UInt8 := join [dgT v.1, dgT v.2.1, dgT v.2.2.1, dgT v.2.2.2] [58]
def lstT (l : List Int) : List UInt8 := if l = [] then [45] else join (l.map dgT) [44]
def sB (l : List UInt8) : ByteArray := ⟨l.toArray⟩
theorem sB_list (l : List UInt8) : (sB l).data.toList = l := by simp [sB]
/-- A command's words. -/
def cmdT (c : Cm) : List ByteArray :=
  if c.kind = 1 then [sB [116, 101, 110, 97, 110, 116], c.tn, sB (dgT c.tw), sB (vecT c.tq)]
  else if c.kind = 2 then [sB [115, 117, 98, 109, 105, 116], sB (dgT c.job.id), c.job.ten, sB (dgT c.job.pri), sB (dgT c.job.run), sB (lstT c.job.par)] ++ c.job.tsk.map fun v => sB (vecT v)
  else if c.kind = 3 then [sB [99, 97, 110, 99, 101, 108], sB (dgT c.num)]
  else if c.kind = 4 then [sB [113, 117, 101, 114, 121], sB (dgT c.num)]
  else if c.kind = 5 then [sB [117, 112], c.node, sB (dgT c.ep), sB (vecT c.vec)]
  else if c.kind = 6 then [sB [98, 101, 97, 116], c.node, sB (dgT c.ep)]
  else if c.kind = 7 then [sB [100, 111, 110, 101], c.node, sB (dgT c.ep), sB (dgT c.num), sB (dgT c.att)]
  else if c.kind = 8 then [sB [102, 97, 105, 108], c.node, sB (dgT c.ep), sB (dgT c.num), sB (dgT c.att)]
  else if c.kind = 9 then [sB [116, 105, 99, 107]]
  else if c.kind = 10 then [sB [110, 111, 100, 101, 115]]
  else []
/-- What Print answers. -/
def printP (c : Cm) : List UInt8 × Int :=
  if formB c then (if 512 < (jn (cmdT c)).length then ([], 1) else (jn (cmdT c), 0)) else ([], 4)
/-- What is safe in a line: not a blank, no mark, nothing below 128's own. -/
def safe (l : List UInt8) : Bool := !l.isEmpty && l.all fun c => decide (33 ≤ c.toNat) && decide (c.toNat ≤ 126) && c != 34
theorem safe_iff (l : List UInt8) : safe l = true ↔ l ≠ [] ∧ ∀ c ∈ l, 33 ≤ c.toNat ∧ c.toNat ≤ 126 ∧ c.toNat ≠ 34 := by
  unfold safe
  rw [Bool.and_eq_true, List.all_eq_true]
  have e : ∀ c : UInt8, ((decide (33 ≤ c.toNat) && decide (c.toNat ≤ 126) && c != 34) = true) ↔ (33 ≤ c.toNat ∧ c.toNat ≤ 126 ∧ c.toNat ≠ 34) := fun c => by
    rw [Bool.and_eq_true, Bool.and_eq_true, decide_eq_true_eq, decide_eq_true_eq, bne_iff_ne, and_assoc]
    have : c ≠ 34 ↔ c.toNat ≠ 34 := not_congr ⟨fun h => by rw [h]; rfl, fun h => UInt8.toNat_inj.1 h⟩
    rw [this]
  constructor
  · rintro ⟨h1, h2⟩
    exact ⟨by intro h; rw [h] at h1; simp at h1, fun c hc => (e c).1 (h2 c hc)⟩
  · rintro ⟨h1, h2⟩
    exact ⟨by cases l with | nil => exact absurd rfl h1 | cons _ _ => rfl, fun c hc => (e c).2 (h2 c hc)⟩
theorem safe_bare {l : List UInt8} (h : safe l = true) : bareB l = true := by
  rw [safe_iff] at h
  rw [bareB_iff]
  exact ⟨h.1, fun c hc => by have := h.2 c hc; omega⟩
theorem ck_safe : ∀ {l : List UInt8}, (∀ c ∈ l, 33 ≤ c.toNat ∧ c.toNat ≤ 126 ∧ c.toNat ≠ 34) → ck l = 0 := by
  intro l
  induction l with
  | nil => intro _; exact ck_nil
  | cons c t ih =>
    intro h
    have h1 := h c (by simp)
    rw [ck_low (by omega), if_neg (by omega)]
    exact ih fun x hx => h x (by simp [hx])
theorem dig_bytes {l : List UInt8} (h : l.all isD = true) : ∀ c ∈ l, 48 ≤ c.toNat ∧ c.toNat ≤ 57 := by
  intro c hc
  rw [List.all_eq_true] at h
  exact (isD_iff c).1 (h c hc)
theorem dg_bytes {n : Int} (h : 0 ≤ n) : ∀ c ∈ dgT n, 48 ≤ c.toNat ∧ c.toNat ≤ 57 := by
  obtain ⟨u, rfl⟩ := Int.eq_ofNat_of_zero_le h
  rw [dgT, itoa_nat]
  exact dig_bytes (dec_digs u)
theorem dg_ne {n : Int} (h : 0 ≤ n) : dgT n ≠ [] := by
  obtain ⟨u, rfl⟩ := Int.eq_ofNat_of_zero_le h
  rw [dgT, itoa_nat]
  exact dec_ne u
theorem dg_safe {n : Int} (h : 0 ≤ n) : safe (dgT n) = true := (safe_iff _).2 ⟨dg_ne h, fun c hc => by have := dg_bytes h c hc; omega⟩
theorem join_bytes (P : UInt8 → Prop) (s : UInt8) (hs : P s) : ∀ (l : List (List UInt8)), (∀ a ∈ l, ∀ c ∈ a, P c) → ∀ c ∈ join l [s], P c := by
  intro l
  cases l with
  | nil => intro _ c hc; rw [join_nil] at hc; cases hc
  | cons x t =>
    intro h c hc
    rw [join_cons, List.mem_append] at hc
    rcases hc with hc | hc
    · exact h x (by simp) c hc
    · unfold joinTail at hc
      rw [List.mem_flatten] at hc
      obtain ⟨y, hy, hc⟩ := hc
      rw [List.mem_map] at hy
      obtain ⟨a, ha, rfl⟩ := hy
      rw [List.mem_append] at hc
      rcases hc with hc | hc
      · simp at hc; rw [hc]; exact hs
      · exact h a (by simp [ha]) c hc
theorem spl_join (s : UInt8) : ∀ (t : List (List UInt8)) (x : List UInt8), s ∉ x → (∀ a ∈ t, s ∉ a) → spl s (x ++ joinTail [s] t) = x :: t := by
  intro t
  induction t with
  | nil => intro x hx _; rw [show joinTail [s] [] = [] from rfl, List.append_nil]; have := splG_miss s x [] hx; rw [List.nil_append] at this; exact this
  | cons y t ih =>
    intro x hx h
    have e : joinTail [s] (y :: t) = s :: (y ++ joinTail [s] t) := by simp [joinTail]
    rw [e]
    have := splG_hit s x [] (y ++ joinTail [s] t) hx
    rw [List.nil_append] at this
    show splG s [] _ = _
    rw [this]
    congr 1
    exact ih y (h y (by simp)) fun a ha => h a (by simp [ha])
theorem not_dig {n : Int} (h : 0 ≤ n) {s : UInt8} (hs : s.toNat < 48 ∨ 57 < s.toNat) : s ∉ dgT n := fun hm => by
  have := dg_bytes h s hm; omega
theorem vecP_T {v : V} (h : okV v = true) : (vecP (vecT v)).map vI = some v := by
  rw [okV_iff] at h
  obtain ⟨⟨a0, a1⟩, ⟨b0, b1⟩, ⟨c0, c1⟩, d0, d1⟩ := h
  have e : spl 58 (vecT v) = [dgT v.1, dgT v.2.1, dgT v.2.2.1, dgT v.2.2.2] := by
    unfold vecT
    rw [join_cons]
    refine spl_join 58 _ _ (not_dig a0 (by decide)) fun a ha => ?_
    simp only [List.mem_cons, List.not_mem_nil, or_false] at ha
    rcases ha with rfl | rfl | rfl
    · exact not_dig b0 (by decide)
    · exact not_dig c0 (by decide)
    · exact not_dig d0 (by decide)
  unfold vecP
  rw [e]
  simp only
  rw [numP_dg a0 (by omega), numP_dg b0 (by omega), numP_dg c0 (by omega), numP_dg d0 (by omega)]
  simp only [Option.map_some, vI]
  rw [Int.toNat_of_nonneg a0, Int.toNat_of_nonneg b0, Int.toNat_of_nonneg c0, Int.toNat_of_nonneg d0]
theorem vecT_bytes {v : V} (h : okV v = true) : vecT v ≠ [] ∧ ∀ c ∈ vecT v, (48 ≤ c.toNat ∧ c.toNat ≤ 57) ∨ c.toNat = 58 := by
  rw [okV_iff] at h
  obtain ⟨⟨a0, a1⟩, ⟨b0, b1⟩, ⟨c0, c1⟩, d0, d1⟩ := h
  refine ⟨?_, ?_⟩
  · unfold vecT
    rw [join_cons]
    intro e
    rw [List.append_eq_nil_iff] at e
    exact dg_ne a0 e.1
  · refine join_bytes (fun c => (48 ≤ c.toNat ∧ c.toNat ≤ 57) ∨ c.toNat = 58) 58 (.inr rfl) _ fun a ha c hc => .inl ?_
    simp only [List.mem_cons, List.not_mem_nil, or_false] at ha
    rcases ha with rfl | rfl | rfl | rfl
    · exact dg_bytes a0 c hc
    · exact dg_bytes b0 c hc
    · exact dg_bytes c0 c hc
    · exact dg_bytes d0 c hc
theorem vecT_safe {v : V} (h : okV v = true) : safe (vecT v) = true := by
  obtain ⟨h1, h2⟩ := vecT_bytes h
  exact (safe_iff _).2 ⟨h1, fun c hc => by have := h2 c hc; omega⟩
theorem lstT_safe {l : List Int} (h : ∀ n ∈ l, 0 ≤ n) : safe (lstT l) = true := by
  unfold lstT
  split
  · decide
  · rename_i hl
    cases l with
    | nil => exact absurd rfl hl
    | cons n t =>
      refine (safe_iff _).2 ⟨?_, ?_⟩
      · rw [List.map_cons, join_cons]
        intro e
        rw [List.append_eq_nil_iff] at e
        exact dg_ne (h n (by simp)) e.1
      · refine join_bytes (fun c => 33 ≤ c.toNat ∧ c.toNat ≤ 126 ∧ c.toNat ≠ 34) 44 (by decide) _ fun a ha c hc => ?_
        rw [List.mem_map] at ha
        obtain ⟨m, hm, rfl⟩ := ha
        have := dg_bytes (h m hm) c hc
        omega
theorem allP_dg {l : List Int} (h : ∀ n ∈ l, 0 ≤ n ∧ n < 10000000000000) : allP numP (l.map dgT) = some (l.map Int.toNat) := allP_map fun n hn => numP_dg (h n hn).1 (h n hn).2
theorem lstP_T {l : List Int} (h : ∀ n ∈ l, 0 ≤ n ∧ n < 10000000000000) (hs : l.Pairwise (· < ·)) : lstP (lstT l) = some l := by
  unfold lstT
  split
  · rename_i e; subst e; rfl
  · rename_i hl
    cases l with
    | nil => exact absurd rfl hl
    | cons n t =>
      have e : spl 44 (join ((n :: t).map dgT) [44]) = (n :: t).map dgT := by
        rw [List.map_cons, join_cons]
        refine spl_join 44 _ _ (not_dig (h n (by simp)).1 (by decide)) fun a ha => ?_
        rw [List.mem_map] at ha
        obtain ⟨m, hm, rfl⟩ := ha
        exact not_dig (h m (by simp [hm])).1 (by decide)
      have hd : join ((n :: t).map dgT) [44] ≠ [45] := by
        rw [List.map_cons, join_cons]
        intro q
        have h1 := dg_bytes (h n (by simp)).1
        cases hq : dgT n with
        | nil => exact dg_ne (h n (by simp)).1 hq
        | cons c r =>
          rw [hq, List.cons_append] at q
          injection q with q
          have := h1 c (by rw [hq]; simp)
          rw [q] at this
          exact absurd this (by decide)
      unfold lstP
      rw [if_neg hd, e, allP_dg h]
      simp only [Option.some.injEq]
      rw [List.map_map]
      have e2 : (n :: t).map ((fun n : Nat => (n : Int)) ∘ Int.toNat) = n :: t := by
        conv => rhs; rw [← List.map_id (n :: t)]
        refine List.map_congr_left fun m hm => ?_
        show ((m.toNat : Nat) : Int) = m
        exact Int.toNat_of_nonneg (h m hm).1
      rw [e2]
      exact ded_self hs
end Go.Proofs.YtidcbcljeofooaaGreatDoor
