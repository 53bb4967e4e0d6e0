/- Rows of records: each element is z cells. -/
import Derived.Test.YtidcbcljeofooaaGreatDoorCls
import Derived.OwnWalk
import Derived.Laws.OwnMore
import Derived.Deep.AppendLies
import Derived.Deep.Upon
namespace Go.Proofs.YtidcbcljeofooaaGreatDoor
open Go.RowKit
variable {α : Type} {z : Nat} {f : α → Nat → Value} {l m : List α} {x : α} {i c : Nat}
def flatR (z : Nat) (f : α → Nat → Value) (l : List α) : List Value := l.flatMap fun x => (List.range z).map (f x)
theorem flatR_app : flatR z f (l ++ m) = flatR z f l ++ flatR z f m := List.flatMap_append
theorem flatR_one : flatR z f [x] = (List.range z).map (f x) := by simp [flatR]
theorem flatR_len : (flatR z f l).length = l.length * z := by
  induction l with
  | nil => simp [flatR]
  | cons y t ih =>
    have e : flatR z f (y :: t) = (List.range z).map (f y) ++ flatR z f t := by simp [flatR]
    rw [e, List.length_append, ih]
    simp [Nat.add_mul, Nat.add_comm]
theorem flatR_at (hi : l[i]? = some x) (hc : c < z) : (flatR z f l)[i * z + c]? = some (f x c) := by
  induction l generalizing i with
  | nil => cases hi
  | cons y t ih =>
    have e : flatR z f (y :: t) = (List.range z).map (f y) ++ flatR z f t := by simp [flatR]
    rw [e]
    cases i with
    | zero =>
      simp only [List.getElem?_cons_zero, Option.some.injEq] at hi
      subst hi
      rw [List.getElem?_append_left (by simp; omega)]
      simp [hc]
    | succ i =>
      rw [List.getElem?_cons_succ] at hi
      have h2 : (i + 1) * z = i * z + z := Nat.succ_mul i z
      rw [List.getElem?_append_right (by simp; omega)]
      have e2 : (i + 1) * z + c - ((List.range z).map (f y)).length = i * z + c := by simp; omega
      rw [e2]
      exact ih hi
theorem flatR_ext {xs : List Value} (hl : xs.length = l.length * z) (h : ∀ i x, l[i]? = some x → ∀ c, c < z → xs[i * z + c]? = some (f x c)) : xs = flatR z f l := by
  refine List.ext_getElem? fun j => ?_
  by_cases hj : j < l.length * z
  · have hz : 0 < z := by
      rcases Nat.eq_zero_or_pos z with q | q
      · subst q; omega
      · exact q
    have hq : j / z < l.length := (Nat.div_lt_iff_lt_mul hz).2 hj
    have hx : l[j / z]? = some l[j / z] := List.getElem?_eq_getElem hq
    have hm := Nat.mod_lt j hz
    have h1 := h _ _ hx _ hm
    have h2 := flatR_at (f := f) hx hm
    have e : j / z * z + j % z = j := by rw [Nat.mul_comm]; exact Nat.div_add_mod j z
    rw [e] at h1 h2
    rw [h1, h2]
  · rw [List.getElem?_eq_none (by omega), List.getElem?_eq_none (by rw [flatR_len]; omega)]
theorem flatR_ones (h : ∀ x c, (f x c).oneCell' = true) : ∀ u ∈ flatR z f l, u.oneCell' = true := by
  intro u hu
  unfold flatR at hu
  rw [List.mem_flatMap] at hu
  obtain ⟨y, -, hu⟩ := hu
  rw [List.mem_map] at hu
  obtain ⟨c, -, rfl⟩ := hu
  exact h y c
/-- Cells behind one another are stored. -/
def sets (xs : List Value) (o : Nat) : List Value → List Value
  | [] => xs
  | u :: us => sets (xs.set o u) (o + 1) us
theorem sets_len (us : List Value) : ∀ (xs : List Value) (o : Nat), (sets xs o us).length = xs.length := by
  induction us with
  | nil => intro xs o; rfl
  | cons u us ih => intro xs o; unfold sets; rw [ih, List.length_set]
theorem sets_out (us : List Value) : ∀ (xs : List Value) (o j : Nat), (j < o ∨ o + us.length ≤ j) → (sets xs o us)[j]? = xs[j]? := by
  induction us with
  | nil => intro xs o j _; rfl
  | cons u us ih =>
    intro xs o j h
    unfold sets
    rw [ih _ _ _ (by simp at h; omega), List.getElem?_set_ne (by simp at h; omega)]
theorem sets_in (us : List Value) : ∀ (xs : List Value) (o c : Nat), c < us.length → o + c < xs.length → (sets xs o us)[o + c]? = us[c]? := by
  induction us with
  | nil => intro xs o c h; cases h
  | cons u us ih =>
    intro xs o c h hl
    unfold sets
    cases c with
    | zero =>
      rw [sets_out _ _ _ _ (.inl (by omega))]
      show (xs.set o u)[o]? = some u
      exact List.getElem?_set_self (by omega)
    | succ c =>
      have := ih (xs.set o u) (o + 1) c (by simpa using h) (by rw [List.length_set]; omega)
      rw [show o + (c + 1) = o + 1 + c by omega, this]; rfl
theorem flatR_sets (hi : i < l.length) : sets (flatR z f l) (i * z) ((List.range z).map (f x)) = flatR z f (l.set i x) := by
  refine flatR_ext (by rw [sets_len, flatR_len, List.length_set]) fun j y hj c hc => ?_
  by_cases e : j = i
  · subst e
    rw [List.getElem?_set_self hi] at hj
    injection hj with hj
    subst hj
    have h1 : j * z + z ≤ l.length * z := by rw [← Nat.succ_mul]; exact Nat.mul_le_mul_right z hi
    rw [sets_in _ _ _ _ (by simpa using hc) (by rw [flatR_len]; omega)]
    simp [hc]
  · rw [List.getElem?_set_ne (fun q => e q.symm)] at hj
    have h1 : j * z + c < i * z ∨ i * z + z ≤ j * z + c := by
      rcases Nat.lt_or_gt_of_ne e with q | q
      · left
        have : (j + 1) * z ≤ i * z := Nat.mul_le_mul_right z q
        rw [Nat.succ_mul] at this
        omega
      · right
        have : (i + 1) * z ≤ j * z := Nat.mul_le_mul_right z q
        rw [Nat.succ_mul] at this
        omega
    rw [sets_out _ _ _ _ (by simpa using h1)]
    exact flatR_at hj hc
def setsW (w : World) (g o : Nat) : List Value → World
  | [] => w
  | u :: us => setsW (w.setCell ⟨g, o, none⟩ u) g (o + 1) us
variable {w w' : World} {B n cap g : Nat} {v : Value} {T : TypeId}
theorem rowR_sets (us : List Value) : ∀ {w : World} {xs : List Value} {o : Nat}, w.ownsRow B T z (.slice (some ⟨g, 0, none⟩) n cap) n xs →
    (setsW w g o us).ownsRow B T z (.slice (some ⟨g, 0, none⟩) n cap) n (sets xs o us) ∧ w.grownBy (setsW w g o us) (some g) := by
  induction us with
  | nil => intro w xs o h; exact ⟨h, World.grownBy.refl _ _⟩
  | cons u us ih =>
    intro w xs o h
    obtain ⟨h1, h2⟩ := h.stored o u
    obtain ⟨h3, h4⟩ := ih (o := o + 1) h1
    exact ⟨h3, ⟨h4.os.trans h2.os, h4.tape.trans h2.tape, h4.output.trans h2.output, Nat.le_trans h2.size h4.size, fun k hk hne => (h4.block k (Nat.lt_of_lt_of_le hk h2.size) hne).trans (h2.block k hk hne)⟩⟩
theorem rowR_set (h : w.ownsRow B T z (.slice (some ⟨g, 0, none⟩) n cap) n (flatR z f l)) (hi : i < l.length) (x : α) :
    (setsW w g (i * z) ((List.range z).map (f x))).ownsRow B T z (.slice (some ⟨g, 0, none⟩) n cap) n (flatR z f (l.set i x)) ∧ w.grownBy (setsW w g (i * z) ((List.range z).map (f x))) (some g) := by
  have := rowR_sets ((List.range z).map (f x)) (o := i * z) h
  rw [flatR_sets hi] at this
  exact this
theorem rowR_len (h : w.ownsRow B T z v n (flatR z f l)) (hz : 0 < z) : l.length = n := by
  have := h.1
  rw [flatR_len] at this
  exact Nat.eq_of_mul_eq_mul_right hz this
theorem rowR_shape {xs : List Value} (h : w.ownsRow B T z v n xs) : ∃ A cap, v = .slice A n cap := by
  obtain ⟨-, ⟨rfl, h0⟩ | ⟨g, cap, cur, rfl, _⟩⟩ := h
  · exact ⟨none, 0, by rw [h0]⟩
  · exact ⟨_, cap, rfl⟩
theorem rowR_cells (h : w.ownsRow B T z v n (flatR z f l)) (h0 : 0 < n) : ∃ g cap, v = .slice (some ⟨g, 0, none⟩) n cap ∧ B ≤ g ∧ g < w.heap.size ∧ (∀ o, w.frozen? ⟨g, o, none⟩ = false) ∧ ∀ i x, l[i]? = some x → ∀ c, c < z → w.cell? ⟨g, i * z + c, none⟩ = some (f x c) := by
  obtain ⟨h1, ⟨-, h4⟩ | ⟨g, cap, cur, rfl, hg, hh, hc, -, hs, ht⟩⟩ := h
  · omega
  · refine ⟨g, cap, rfl, hg, lt_of_at hh, fun o => blk_free hh o, fun i x hi c hcz => ?_⟩
    rw [blk_cell hh]
    have h5 := flatR_at (f := f) hi hcz
    rw [← ht, List.getElem?_take] at h5
    split at h5
    · rw [← Array.getElem?_toList]; exact h5
    · cases h5
theorem rowR_kept {xs : List Value} (h : w.ownsRow B T z v n xs) (e : ∀ b, v.ownBlock = some b → w'.heap[b]? = w.heap[b]?) : w'.ownsRow B T z v n xs := by
  obtain ⟨h1, h2 | ⟨g, cap, cur, rfl, hg, hh, rest⟩⟩ := h
  · exact ⟨h1, .inl h2⟩
  · exact ⟨h1, .inr ⟨g, cap, cur, rfl, hg, (e g rfl).trans hh, rest⟩⟩
theorem rowR_below {xs : List Value} (h : w.ownsRow B T z v n xs) (hb : Below w.heap.size w w') : w'.ownsRow B T z v n xs := rowR_kept h fun b e => hb.block b (h.lt b e).2
/-- What 'append' of one record asks of its type. -/
structure RecT (T S : TypeId) (z by_ : Nat) (P : Program) : Prop where
  sl : P.underlying S = some (.slice T)
  info : ∃ i zv, P.info? T = some i ∧ i.zero = some zv ∧ i.size = z ∧ i.bytes = by_ ∧ zv.cells.size = z
theorem recT_of {P : Program} {T S : TypeId} {z b : Nat} (hs : P.underlying S = some (.slice T)) (h1 : (P.info? T).map (fun i => (i.size, i.bytes)) = some (z, b)) (h2 : ((P.info? T).bind (·.zero)).map (fun v => v.cells.size) = some z) : RecT T S z b P := by
  refine ⟨hs, ?_⟩
  cases e : P.info? T with
  | none => rw [e] at h1; cases h1
  | some i =>
    rw [e] at h1 h2
    simp only [Option.map_some, Option.bind_some] at h1 h2
    injection h1 with h1
    injection h1 with h3 h4
    cases ez : i.zero with
    | none => rw [ez] at h2; cases h2
    | some zv =>
      rw [ez] at h2
      simp only [Option.map_some] at h2
      injection h2 with h2
      exact ⟨i, zv, rfl, ez, h3, h4, h2⟩
/-- Records that lie somewhere are put behind a row. -/
theorem rowR_app {P : Program} {S : TypeId} {b : Nat} (hT : RecT T S z b P) (hz : 0 < z) (h1 : ∀ x c, (f x c).oneCell' = true) {A : Option Addr} (ho : w.ownsRow B T z (.slice A n cap) n (flatR z f l)) (hn : n + m.length ≤ 1048576) (hby : (n + m.length) * b ≤ 140737488355328) (hB : B ≤ w.heap.size) (ad : Addr) (c : Nat) (hm : 0 < m.length)
    (hnews : ∀ j u, (flatR z f m)[j]? = some u → w.cell? (ad.add j) = some u) :
    ∃ g cap' w', (Builtin.append_ #[S, S] S #[.slice A n cap, .slice (some ad) m.length c]).run P w = .ok (.slice (some ⟨g, 0, none⟩) (n + m.length) cap') w' ∧
      w'.ownsRow B T z (.slice (some ⟨g, 0, none⟩) (n + m.length) cap') (n + m.length) (flatR z f (l ++ m)) ∧ w.grownBy w' (Value.slice A n cap).ownBlock ∧ ((Value.slice A n cap).ownBlock = some g ∨ g = w.heap.size) ∧ g < w'.heap.size ∧ Below B w w' := by
  obtain ⟨i0, z0, hi, hz0, hz1, hz2, hz3⟩ := hT.info
  obtain ⟨g, cap', w', happ, hown, hG, hat, hgl⟩ := run_append_lies (P := P) (w := w) S S B T i0 z0 z b hT.sl hi hz0 hz1 hz2 hz3 hz
    (.slice A n cap) n (flatR z f l) ho ad m.length c (flatR z f m) flatR_len hnews (flatR_ones h1) hm (by unfold maxLen; omega) hby hB w.heap.size rfl
  refine ⟨g, cap', w', happ, by rw [flatR_app]; exact hown, hG, hat, hgl, ?_⟩
  exact Below.grown (Below.refl _ _) hG hB (fun j e => (ho.lt j e).1)
/-- Records that lie in memory. -/
def SlG (z : Nat) (f : α → Nat → Value) (w : World) (A : Option Addr) (n : Nat) (l : List α) : Prop :=
  n = l.length ∧ (l = [] ∨ ∃ b off, A = some ⟨b, off, none⟩ ∧ b < w.heap.size ∧ ∀ i x, l[i]? = some x → ∀ c, c < z → w.cell? ⟨b, off + i * z + c, none⟩ = some (f x c))
theorem SlG.below {A : Option Addr} (h : SlG z f w A n l) (hb : Below w.heap.size w w') : SlG z f w' A n l := by
  obtain ⟨h1, rfl | ⟨b, off, rfl, hl, hc⟩⟩ := h
  · exact ⟨h1, .inl rfl⟩
  · exact ⟨h1, .inr ⟨b, off, rfl, Nat.lt_of_lt_of_le hl hb.size, fun i x hi c hz => (hb.cell hl).trans (hc i x hi c hz)⟩⟩
theorem SlG.one {A : Option Addr} (h : SlG z f w A n l) (hb : Below w.heap.size w w') (hi : l[i]? = some x) : ∃ b off, A = some ⟨b, off, none⟩ ∧ b < w'.heap.size ∧ ∀ c, c < z → w'.cell? ⟨b, off + i * z + c, none⟩ = some (f x c) := by
  obtain ⟨h1, rfl | ⟨b, off, rfl, hl, hc⟩⟩ := h
  · cases hi
  · exact ⟨b, off, rfl, Nat.lt_of_lt_of_le hl hb.size, fun c hz => (hb.cell hl).trans (hc i x hi c hz)⟩
theorem SlG.of_row {A : Option Addr} (hz : 0 < z) (h : w.ownsRow B T z (.slice A n cap) n (flatR z f l)) : SlG z f w A n l := by
  have hl := rowR_len h hz
  refine ⟨hl.symm, ?_⟩
  by_cases h0 : l = []
  · exact .inl h0
  · have : 0 < l.length := List.length_pos_iff.2 h0
    obtain ⟨g, c, e, -, hg, -, hc⟩ := rowR_cells h (by omega)
    injection e with e1 e2 e3
    exact .inr ⟨g, 0, e1, hg, fun i x hi c hcz => by rw [Nat.zero_add]; exact hc i x hi c hcz⟩
theorem SlG.take {A : Option Addr} {k : Nat} (h : SlG z f w A n l) (hk : k ≤ n) : SlG z f w A k (l.take k) := by
  obtain ⟨h1, h2⟩ := h
  refine ⟨by rw [List.length_take]; omega, ?_⟩
  rcases h2 with rfl | ⟨b, off, rfl, hl, hc⟩
  · left; simp
  · refine .inr ⟨b, off, rfl, hl, fun i x hi c hz => hc i x ?_ c hz⟩
    rw [List.getElem?_take] at hi
    split at hi
    · exact hi
    · cases hi
theorem SlG.drop {b off k : Nat} (h : SlG z f w (some ⟨b, off, none⟩) n l) (hk : k ≤ n) : SlG z f w (some ⟨b, off + k * z, none⟩) (n - k) (l.drop k) := by
  obtain ⟨h1, h2⟩ := h
  refine ⟨by rw [List.length_drop]; omega, ?_⟩
  rcases h2 with rfl | ⟨b', off', e, hl, hc⟩
  · left; simp
  · injection e with e
    injection e with e1 e2
    subst e1 e2
    refine .inr ⟨b, _, rfl, hl, fun i x hi c hz => ?_⟩
    rw [List.getElem?_drop] at hi
    have := hc (k + i) x hi c hz
    rw [Nat.add_mul] at this
    rw [← this]
    congr 2
    omega
/-- Whatever records lie somewhere, none too, are put behind a row. -/
theorem rowR_src {P : Program} {S : TypeId} {b n2 c2 : Nat} (hT : RecT T S z b P) (hz : 0 < z) (h1 : ∀ x c, (f x c).oneCell' = true) {A A2 : Option Addr} (ho : w.ownsRow B T z (.slice A n cap) n (flatR z f l)) (hs : SlG z f w A2 n2 m) (hn : n + n2 ≤ 1048576) (hby : (n + n2) * b ≤ 140737488355328) (hB : B ≤ w.heap.size) :
    ∃ A' cap' w', (Builtin.append_ #[S, S] S #[.slice A n cap, .slice A2 n2 c2]).run P w = .ok (.slice A' (n + n2) cap') w' ∧
      w'.ownsRow B T z (.slice A' (n + n2) cap') (n + n2) (flatR z f (l ++ m)) ∧ w.grownBy w' (Value.slice A n cap).ownBlock ∧ (∀ g, (Value.slice A' (n + n2) cap').ownBlock = some g → (Value.slice A n cap).ownBlock = some g ∨ w.heap.size ≤ g) ∧ Below B w w' := by
  obtain ⟨hl, h2⟩ := hs
  by_cases h0 : n2 = 0
  · obtain rfl : m = [] := List.eq_nil_of_length_eq_zero (by omega)
    obtain ⟨i0, z0, hi, hz0, hz1, hz2, hz3⟩ := hT.info
    have hsrc : Src P i0.size S (.slice A2 n2 c2) 0 [] w := by
      rw [h0]
      cases A2 with
      | none => exact Src.ofNil w hT.sl c2
      | some a => exact Src.ofSlice w hT.sl a 0 c2 [] (by simp) (fun j u h => by simp at h) (fun u h => nomatch h)
    have hle : n ≤ cap := by
      obtain ⟨-, ⟨h3, h4⟩ | ⟨g', cap', cur, h3, -, -, hle, -⟩⟩ := ho
      · injection h3 with _ e1 e2; omega
      · injection h3 with _ e1 e2; omega
    have happ := run_append_nothing (P := P) w S S S T i0 hT.sl hi A n cap hle _ hsrc
    rw [List.append_nil, show n + n2 = n by omega]
    exact ⟨A, cap, w, happ, ho, World.grownBy.refl _ _, fun g hg => .inl hg, Below.refl _ _⟩
  · rcases h2 with rfl | ⟨b2, off, rfl, hlt, hc⟩
    · exact absurd hl h0
    · obtain ⟨g, cap', w', happ, hown, hG, hat, -, hb⟩ := rowR_app (m := m) (b := b) hT hz h1 ho (by omega) (by rw [← hl]; exact hby) hB ⟨b2, off, none⟩ c2 (by omega) (fun j u hj => by
        have hjl : j < m.length * z := by
          have := (List.getElem?_eq_some_iff.1 hj).1
          rwa [flatR_len] at this
        have hq : j / z < m.length := (Nat.div_lt_iff_lt_mul hz).2 hjl
        have hx : m[j / z]? = some m[j / z] := List.getElem?_eq_getElem hq
        have hm := Nat.mod_lt j hz
        have e : j / z * z + j % z = j := by rw [Nat.mul_comm]; exact Nat.div_add_mod j z
        have h3 := flatR_at (f := f) hx hm
        rw [e, hj] at h3
        have h4 := hc _ _ hx _ hm
        rw [Nat.add_assoc, e] at h4
        have e0 : (⟨b2, off, none⟩ : Addr).add j = ⟨b2, off + j, none⟩ := by unfold Addr.add; split <;> simp_all
        rw [e0, h4, h3])
      rw [← hl] at happ hown
      refine ⟨some ⟨g, 0, none⟩, cap', w', happ, hown, hG, fun q hq => ?_, hb⟩
      injection hq with hq
      simp only at hq
      subst hq
      rcases hat with e | e
      · exact .inl e
      · exact .inr (by omega)
end Go.Proofs.YtidcbcljeofooaaGreatDoor
