/- Chapter 15, plain: the order of tenants. No program is in sight. -/
import Derived.Test.YteccpjijlkjneaaPShare
import Derived.Test.YteccpjijlkjneaaGrw
import Derived.Test.YteccpjijlkjneaaFbA
import Derived.WideShapes
import Derived.Sort.EncStr
namespace Go.Proofs.Yteccpjijlkjneaa
open Go.WideShapes
abbrev ky (s : ByteArray) : List UInt8 := s.data.toList
theorem ky_inj {a b : ByteArray} (h : ky a = ky b) : a = b := bytes_inj h
/-- What a tenant uses: its name, its weight, four amounts. -/
structure Us where
  name : ByteArray
  wt : Int
  a : Int
  b : Int
  c : Int
  d : Int
abbrev V4 := Int × Int × Int × Int
variable {W : V4} {l l' s s' : List Us}
def sh (W : V4) (u : Us) : (Int × Int) × Int := shareR u.a u.b u.c u.d W.1 W.2.1 W.2.2.1 W.2.2.2 u.wt
def befI (W : V4) (x y : Us) : Prop := (sh W x).1.1 * (sh W y).1.2 < (sh W y).1.1 * (sh W x).1.2 ∨ ((sh W x).1.1 * (sh W y).1.2 = (sh W y).1.1 * (sh W x).1.2 ∧ ky x.name < ky y.name)
instance (W : V4) (x y : Us) : Decidable (befI W x y) := by unfold befI; infer_instance
/-- The first share that is refused. -/
def fstE (W : V4) : List Us → Int
  | [] => 0
  | u :: t => if (sh W u).2 ≠ 0 then (sh W u).2 else fstE W t
def errO (W : V4) (l : List Us) : Int := if fstE W l ≠ 0 then fstE W l else if (l.map (fun u => ky u.name)).Nodup then 0 else 5
theorem fstE_zero : fstE W l = 0 ↔ ∀ u ∈ l, (sh W u).2 = 0 := by
  induction l with
  | nil => simp [fstE]
  | cons u t ih =>
    unfold fstE
    by_cases h : (sh W u).2 = 0
    · rw [if_neg (fun q => q h), ih]; simp [h]
    · rw [if_pos h]; simp [h]
theorem fstE_cons (u : Us) (t : List Us) : fstE W (u :: t) = if (sh W u).2 ≠ 0 then (sh W u).2 else fstE W t := rfl
theorem fstE_app : fstE W (l ++ l') = if fstE W l ≠ 0 then fstE W l else fstE W l' := by
  induction l with
  | nil => simp [fstE]
  | cons u t ih =>
    rw [List.cons_append, fstE_cons, fstE_cons, ih]
    by_cases h : (sh W u).2 = 0
    · simp [h]
    · simp [h]
theorem fstE_take {i : Nat} {u : Us} (h : l[i]? = some u) : fstE W (l.take (i + 1)) = if fstE W (l.take i) ≠ 0 then fstE W (l.take i) else (sh W u).2 := by
  rw [List.take_add_one, h, fstE_app]
  by_cases q : fstE W (l.take i) = 0
  · rw [if_neg (fun z => z q), if_neg (fun z => z q)]
    show fstE W [u] = _
    unfold fstE fstE
    by_cases z : (sh W u).2 = 0 <;> simp [z]
  · rw [if_pos q, if_pos q]
theorem fstE_bad {i : Nat} {u : Us} (h : l[i]? = some u) (h0 : fstE W (l.take i) = 0) (hu : (sh W u).2 ≠ 0) : fstE W l = (sh W u).2 := by
  have h1 := fstE_take (W := W) h
  rw [h0, if_neg (fun z => z rfl)] at h1
  have h2 := fstE_app (W := W) (l := l.take (i + 1)) (l' := l.drop (i + 1))
  rw [List.take_append_drop, h1, if_pos hu] at h2
  exact h2
theorem errO_zero : errO W l = 0 ↔ (∀ u ∈ l, (sh W u).2 = 0) ∧ (l.map (fun u => ky u.name)).Nodup := by
  unfold errO
  rw [← fstE_zero]
  by_cases h : fstE W l = 0
  · rw [if_neg (fun z => z h)]
    by_cases q : (l.map (fun u => ky u.name)).Nodup
    · rw [if_pos q]; simp [h, q]
    · rw [if_neg q]; simp [q]
  · rw [if_pos h]; simp [h]
theorem formed_bd {a b c d : Int} (h : formedB a b c d = true) : (0 ≤ a ∧ a ≤ 1099511627776) ∧ (0 ≤ b ∧ b ≤ 1099511627776) ∧ (0 ≤ c ∧ c ≤ 1099511627776) ∧ 0 ≤ d ∧ d ≤ 1099511627776 := by
  simp only [formedB, Bool.and_eq_true, ok1_iff] at h
  omega
/-- A share that isn't refused is a fraction of the heap's. -/
theorem sh_ok {u : Us} (h : (sh W u).2 = 0) : okK ((sh W u).1.1, (sh W u).1.2, 0) := by
  unfold sh at *
  obtain ⟨a', b', c', d'⟩ := W
  simp only at *
  by_cases hx : formedB u.a u.b u.c u.d = true
  · by_cases hy : formedB a' b' c' d' = true
    · by_cases hw : u.wt < 1 ∨ 1000 < u.wt
      · rw [shareR_range hx hy hw] at h
        simp at h
      · rw [shareR_ok hx hy (by omega) (by omega)] at h ⊢
        have hx := formed_bd hx
        have hy := formed_bd hy
        have h1 := best_nonneg (a' := a') (b' := b') (c' := c') (d' := d') (show 0 ≤ u.a by omega) (show 0 ≤ u.b by omega) (show 0 ≤ u.c by omega) (show 0 ≤ u.d by omega)
        have h2 := best_pos (a := u.a) (b := u.b) (c := u.c) (d := u.d) (show 0 ≤ a' by omega) (show 0 ≤ b' by omega) (show 0 ≤ c' by omega) (show 0 ≤ d' by omega)
        have h3 : (best u.a u.b u.c u.d a' b' c' d').1 ≤ 1099511627776 ∧ (best u.a u.b u.c u.d a' b' c' d').2 ≤ 1099511627776 := by
          rcases best_in u.a u.b u.c u.d a' b' c' d' with e | ⟨_, e⟩ | ⟨_, e⟩ | ⟨_, e⟩ | ⟨_, e⟩ <;> rw [e] <;> constructor <;> simp only <;> omega
        generalize best u.a u.b u.c u.d a' b' c' d' = bb at *
        obtain ⟨n, m⟩ := bb
        simp only at *
        have hm : 0 < m * u.wt := Int.mul_pos h2 (by omega)
        have hmu : m * u.wt ≤ 1099511627776 * 1000 := Int.mul_le_mul h3.2 (by omega) (by omega) (by omega)
        have hb := newR_bd h1 hm
        refine ⟨⟨hb.1, Int.le_trans hb.2.1 (by omega), Int.le_trans hb.2.2.2.1 (by omega)⟩, ?_⟩
        show 0 < (newR n (m * u.wt)).1.2
        rw [newR_pos (by omega)]
        exact quot_pos hm
    · rw [shareR_form (by simp [hy])] at h
      simp at h
  · rw [shareR_form (by simp [hx])] at h
    simp at h
theorem bef_asy {x y : Us} (h : befI W x y) : ¬ befI W y x := by
  unfold befI at *
  rintro (q | ⟨q1, q2⟩)
  · rcases h with h | ⟨h1, -⟩ <;> omega
  · rcases h with h | ⟨-, h2⟩
    · omega
    · exact List.lt_irrefl _ (List.lt_trans h2 q2)
theorem bef_tot {x y : Us} (h : ky x.name ≠ ky y.name) : befI W x y ∨ befI W y x := by
  unfold befI
  by_cases h1 : (sh W x).1.1 * (sh W y).1.2 < (sh W y).1.1 * (sh W x).1.2
  · exact .inl (.inl h1)
  · by_cases h2 : (sh W y).1.1 * (sh W x).1.2 < (sh W x).1.1 * (sh W y).1.2
    · exact .inr (.inl h2)
    · have e : (sh W x).1.1 * (sh W y).1.2 = (sh W y).1.1 * (sh W x).1.2 := by omega
      by_cases h3 : ky x.name < ky y.name
      · exact .inl (.inr ⟨e, h3⟩)
      · refine .inr (.inr ⟨e.symm, ?_⟩)
        have h4 : ky y.name ≤ ky x.name := List.not_lt.1 h3
        rcases List.le_iff_lt_or_eq.1 h4 with q | q
        · exact q
        · exact absurd q.symm h
theorem bef_tr {x y z : Us} (hx : (sh W x).2 = 0) (hy : (sh W y).2 = 0) (hz : (sh W z).2 = 0) (h : befI W x y) (k : befI W y z) : befI W x z := by
  have ox := (sh_ok hx).2
  have oy := (sh_ok hy).2
  have oz := (sh_ok hz).2
  simp only at ox oy oz
  unfold befI at *
  have f1 := @fr_trans (sh W x).1.1 (sh W x).1.2 (sh W y).1.1 (sh W y).1.2 (sh W z).1.1 (sh W z).1.2 ox oy oz
  have f2 := @fr_trans (sh W z).1.1 (sh W z).1.2 (sh W y).1.1 (sh W y).1.2 (sh W x).1.1 (sh W x).1.2 oz oy ox
  have f3 := @fr_trans (sh W y).1.1 (sh W y).1.2 (sh W z).1.1 (sh W z).1.2 (sh W x).1.1 (sh W x).1.2 oy oz ox
  have f4 := @fr_trans (sh W z).1.1 (sh W z).1.2 (sh W x).1.1 (sh W x).1.2 (sh W y).1.1 (sh W y).1.2 oz ox oy
  rcases h with h | ⟨h1, h2⟩
  · rcases k with k | ⟨k1, k2⟩
    · left; omega
    · left; omega
  · rcases k with k | ⟨k1, k2⟩
    · left; omega
    · right
      exact ⟨by omega, List.lt_trans h2 k2⟩
/-- The usages in the order of tenants. -/
def SrtO (W : V4) (l s : List Us) : Prop := s.Perm l ∧ s.Pairwise (befI W)
theorem sorted_unique {α : Type} {r : α → α → Prop} (anti : ∀ x y, r x y → r y x → x = y) : ∀ {a b : List α}, a.Pairwise r → b.Pairwise r → a.Perm b → a = b
  | [], b, _, _, p => by rw [List.nil_perm.1 p]
  | x :: a, [], _, _, p => absurd p.length_eq (by simp)
  | x :: a, y :: b, ha, hb, p => by
    obtain ⟨a1, a2⟩ := List.pairwise_cons.1 ha
    obtain ⟨b1, b2⟩ := List.pairwise_cons.1 hb
    have e : x = y := by
      rcases List.mem_cons.1 (p.mem_iff.1 (List.mem_cons_self (a := x) (l := a))) with e | hx
      · exact e
      · rcases List.mem_cons.1 (p.mem_iff.2 (List.mem_cons_self (a := y) (l := b))) with e | hy
        · exact e.symm
        · exact anti _ _ (a1 y hy) (b1 x hx)
    subst e
    rw [sorted_unique anti a2 b2 ((List.perm_cons x).1 p)]
theorem SrtO.unique (h : SrtO W l s) (h' : SrtO W l s') : s = s' := sorted_unique (fun _ _ a b => absurd b (bef_asy a)) h.2 h'.2 (h.1.trans h'.1.symm)
theorem errO_perm (p : l.Perm l') : errO W l = 0 ↔ errO W l' = 0 := by
  rw [errO_zero, errO_zero, (p.map (fun u => ky u.name)).nodup_iff]
  constructor
  · rintro ⟨h, q⟩
    exact ⟨fun u hu => h u (p.mem_iff.2 hu), q⟩
  · rintro ⟨h, q⟩
    exact ⟨fun u hu => h u (p.mem_iff.1 hu), q⟩
/-- One more comes to its place. -/
theorem ins_place {u : Us} {k : Nat} (hs : s.Pairwise (befI W)) (hok : ∀ x ∈ s, (sh W x).2 = 0) (hu : (sh W u).2 = 0) (hk : k ≤ s.length) (hb : ∀ x ∈ s.drop k, befI W u x) (ha : ∀ x, s[k - 1]? = some x → 0 < k → befI W x u) :
    (s.take k ++ u :: s.drop k).Pairwise (befI W) := by
  have hsplit : (s.take k ++ s.drop k).Pairwise (befI W) := by rw [List.take_append_drop]; exact hs
  rw [List.pairwise_append] at hsplit
  obtain ⟨h1, h2, h3⟩ := hsplit
  rw [List.pairwise_append, List.pairwise_cons]
  refine ⟨h1, ⟨hb, h2⟩, fun x hx y hy => ?_⟩
  have hxu : befI W x u := by
    obtain ⟨i, hi, rfl⟩ := List.mem_iff_getElem.1 hx
    rw [List.length_take] at hi
    rw [List.getElem_take]
    have hk1 : k - 1 < s.length := by omega
    have hl := ha s[k - 1] (List.getElem?_eq_getElem hk1) (by omega)
    by_cases e : i = k - 1
    · subst e; exact hl
    · exact bef_tr (hok _ (List.getElem_mem _)) (hok _ (List.getElem_mem _)) hu (List.pairwise_iff_getElem.1 hs i (k - 1) (by omega) hk1 (by omega)) hl
  rw [List.mem_cons] at hy
  rcases hy with rfl | hy
  · exact hxu
  · exact h3 x hx y hy
end Go.Proofs.Yteccpjijlkjneaa
