/- A map from strings to values of one shape, as a function of the key's bytes: laws of look-up, store, delete, length and range, at a world's block. No program is in sight but the map's types. -/
import Derived.Maps.RangeWalk
import Derived.Maps.Ext
import Derived.StringKeys
import Derived.Below
namespace Go.Proofs.YtidcbcljeofooaaGreatDoor
open Go.RowKit Go.Maps Go.WideShapes
section
variable {α : Type}
open Classical in
/-- How an element reads: as the thing whose value it is. -/
noncomputable def reads (mk : α → Value) (v : Value) : Option (DataW α × List MemPlace) := if h : ∃ x, v = mk x then some (.held h.choose, []) else none
theorem reads_mk {mk : α → Value} (inj : ∀ x y, mk x = mk y → x = y) (x : α) : reads mk (mk x) = some (.held x, []) := by
  have h : ∃ y, mk x = mk y := ⟨x, rfl⟩
  unfold reads
  rw [dif_pos h]
  have := inj _ _ h.choose_spec
  rw [← this]
theorem reads_inv {mk : α → Value} {v : Value} {z : DataW α × List MemPlace} (h : reads mk v = some z) : ∃ x, v = mk x ∧ z = (.held x, []) := by
  unfold reads at h
  split at h
  · rename_i h'
    cases h
    exact ⟨h'.choose, h'.choose_spec, rfl⟩
  · cases h
/-- The datum is the function A of the key's bytes. -/
structure Sees (D : DataW α) (A : List UInt8 → Option α) : Prop where
  has : ∀ k, Maps.has D (.string k) = (A k).isSome
  at_ : ∀ k z, D.atKey (.string k) z = (match A k with | some x => .held x | none => z)
/-- Block b is a map of just n entries that is the function A. -/
def OwnsM (w : World) (P : Program) (k : TypeId) (mk : α → Value) (b n : Nat) (A : List UInt8 → Option α) : Prop := ∃ D, w.ownsMap P k (reads mk) b n D ∧ Sees D A ∧ Maps.size D = n
def putA (A : List UInt8 → Option α) (k : List UInt8) (x : α) : List UInt8 → Option α := fun j => if j = k then some x else A j
def delA (A : List UInt8 → Option α) (k : List UInt8) : List UInt8 → Option α := fun j => if j = k then none else A j
def noA : List UInt8 → Option α := fun _ => none
theorem putA_same (A : List UInt8 → Option α) (k : List UInt8) (x : α) : putA A k x k = some x := by simp [putA]
theorem putA_other (A : List UInt8 → Option α) {k j : List UInt8} (x : α) (h : j ≠ k) : putA A k x j = A j := by simp [putA, h]
theorem delA_same (A : List UInt8 → Option α) (k : List UInt8) : delA A k k = none := by simp [delA]
theorem delA_other (A : List UInt8 → Option α) {k j : List UInt8} (h : j ≠ k) : delA A k j = A j := by simp [delA, h]
variable {P : Program} {k : TypeId} {mk : α → Value} {w : World} {b n : Nat} {A : List UInt8 → Option α}
theorem keyLit (l : List UInt8) : WideAt.IsKeyLit (.string l) := trivial
theorem sees_none : Sees (.map [] : DataW α) noA := ⟨fun _ => rfl, fun _ _ => rfl⟩
theorem Sees.put {D : DataW α} (h : Sees D A) (hm : Maps.IsMap D) (l : List UInt8) (x : α) : Sees (D.put (.string l) (.held x)) (putA A l x) := by
  refine ⟨fun j => ?_, fun j z => ?_⟩
  · by_cases e : j = l
    · subst e; rw [Maps.has_put_same hm (keyLit _), putA_same]; rfl
    · rw [Maps.has_put_other (by intro h; cases h; exact e rfl), putA_other _ _ e, h.has]
  · by_cases e : j = l
    · subst e; rw [Maps.atKey_put_same hm (keyLit _), putA_same]
    · rw [Maps.atKey_put_other (by intro h; cases h; exact e rfl), putA_other _ _ e, h.at_]
theorem Sees.del {D : DataW α} (h : Sees D A) (l : List UInt8) : Sees (D.del (.string l)) (delA A l) := by
  refine ⟨fun j => ?_, fun j z => ?_⟩
  · by_cases e : j = l
    · subst e; rw [Maps.has_del_same, delA_same]; rfl
    · rw [Maps.has_del_other (by intro h; cases h; exact e rfl), delA_other _ e, h.has]
  · by_cases e : j = l
    · subst e; rw [Maps.atKey_del_same, delA_same]
    · rw [Maps.atKey_del_other (by intro h; cases h; exact e rfl), delA_other _ e, h.at_]
theorem owns_exact {D : DataW α} (h : w.ownsMap P k (reads mk) b n D) : w.ownsMap P k (reads mk) b (Maps.size D) D := by
  obtain ⟨es, clock, hb, F, hs, hD⟩ := h
  refine ⟨es, clock, hb, F, ?_, hD⟩
  rw [hD]
  simp [Maps.size, length_sorted]
theorem OwnsM.made (w : World) (P : Program) (k : TypeId) (mk : α → Value) : OwnsM (w.alloc (.map #[] 0)) P k mk w.heap.size 0 noA :=
  ⟨_, World.ownsMap_made w P k _, sees_none, rfl⟩
theorem OwnsM.at {w' : World} (h : OwnsM w P k mk b n A) (e : w'.heap[b]? = w.heap[b]?) : OwnsM w' P k mk b n A := by
  obtain ⟨D, ⟨es, clock, hb, F, hs, hD⟩, r⟩ := h
  exact ⟨D, ⟨es, clock, e.trans hb, F, hs, hD⟩, r⟩
theorem OwnsM.lt (h : OwnsM w P k mk b n A) : b < w.heap.size := by
  obtain ⟨D, h, _⟩ := h
  exact h.lt
theorem OwnsM.isMap (h : OwnsM w P k mk b n A) : ∃ es clock, w.heap[b]? = some (.map es clock) := by
  obtain ⟨D, ⟨es, clock, hb, _⟩, _⟩ := h
  exact ⟨es, clock, hb⟩
theorem OwnsM.ne {b' : Nat} {cs : Array Value} {t : TypeId} {f : Nat × Nat} (h : OwnsM w P k mk b n A) (hc : w.heap[b']? = some (.cells cs t f)) : b' ≠ b := by
  obtain ⟨es, clock, hb⟩ := h.isMap
  intro e
  rw [e, hb] at hc
  cases hc
/-- 'm[k]'. -/
theorem OwnsM.look {t e : TypeId} (h : OwnsM w P k mk b n A) (inj : ∀ x y, mk x = mk y → x = y) (hk : P.underlying k = some .string) (ht : P.underlying t = some (.map k e)) {x0 : α} (hz : (zeroValue e).run P w = .ok (mk x0) w) {s : ByteArray} (hs : s.size ≤ maxLen) :
    (Instr.lookup t (.map (some b)) (.string s) false).run P w = .ok (mk ((A s.data.toList).getD x0)) w := by
  obtain ⟨D, hown, hsees, -⟩ := h
  obtain ⟨v, ps, hrun, hv⟩ := hown.lookup (string_keyed hk) ht hz (reads_mk inj x0) (WideMaps.keyOf_string_mk hk hs)
  obtain ⟨x, rfl, hx⟩ := reads_inv hv
  rw [hsees.at_] at hx
  rw [hrun]
  cases hA : A s.data.toList <;> simp [hA] at hx <;> simp [hx]
/-- 'v, ok := m[k]'. -/
theorem OwnsM.look_ok {t e : TypeId} (h : OwnsM w P k mk b n A) (inj : ∀ x y, mk x = mk y → x = y) (hk : P.underlying k = some .string) (ht : P.underlying t = some (.map k e)) {x0 : α} (hz : (zeroValue e).run P w = .ok (mk x0) w) {s : ByteArray} (hs : s.size ≤ maxLen) :
    (Instr.lookup t (.map (some b)) (.string s) true).run P w = .ok (.tuple #[mk ((A s.data.toList).getD x0), .bool (A s.data.toList).isSome]) w := by
  obtain ⟨D, hown, hsees, -⟩ := h
  obtain ⟨v, ps, hrun, hv⟩ := hown.look_ok (string_keyed hk) ht hz (reads_mk inj x0) (WideMaps.keyOf_string_mk hk hs)
  obtain ⟨x, rfl, hx⟩ := reads_inv hv
  rw [hsees.at_] at hx
  rw [hrun, hsees.has]
  cases hA : A s.data.toList <;> simp [hA] at hx <;> simp [hx]
/-- 'len(m)'. -/
theorem OwnsM.len {t e : TypeId} (h : OwnsM w P k mk b n A) (ht : P.underlying t = some (.map k e)) (ty : TypeId) : (Builtin.len_ #[t] ty #[.map (some b)]).run P w = .ok (.int .i64 n) w := by
  obtain ⟨D, hown, -, hn⟩ := h
  rw [hown.len ht, hn]
/-- 'm[k] = v'. -/
theorem OwnsM.store {t e : TypeId} (h : OwnsM w P k mk b n A) (inj : ∀ x y, mk x = mk y → x = y) (hk : P.underlying k = some .string) (ht : P.underlying t = some (.map k e)) (hn : n < maxLen) {s : ByteArray} (hs : s.size ≤ maxLen) (x : α) :
    ∃ w', (Instr.mapUpdate t (.map (some b)) (.string s) (mk x)).run P w = .ok () w' ∧ OwnsM w' P k mk b (if (A s.data.toList).isSome then n else n + 1) (putA A s.data.toList x) ∧ w.grownBy w' (some b) ∧ w'.heap.size = w.heap.size := by
  obtain ⟨D, hown, hsees, hsz⟩ := h
  obtain ⟨w', hrun, hown', hg⟩ := hown.store (string_keyed hk) ht hn (WideMaps.keyOf_string_mk hk hs) (reads_mk inj x)
  refine ⟨w', hrun, ⟨_, ?_, hsees.put hown.isMap _ x, ?_⟩, hg.grown, ?_⟩
  · have := owns_exact hown'
    rwa [Maps.size_put (hown.tidy (string_keyed hk)), hsz, hsees.has] at this
  · rw [Maps.size_put (hown.tidy (string_keyed hk)), hsz, hsees.has]
  · obtain ⟨es, clock, es', clock', hb, rfl⟩ := hg
    simp [ChangeMaps.setBlock]
/-- 'delete(m, k)'. -/
theorem OwnsM.drop {t e : TypeId} (h : OwnsM w P k mk b n A) (hk : P.underlying k = some .string) (ht : P.underlying t = some (.map k e)) {s : ByteArray} (hs : s.size ≤ maxLen) (ty : TypeId) :
    ∃ w', (Builtin.delete_ #[t, k] ty #[.map (some b), .string s]).run P w = .ok (.tuple #[]) w' ∧ OwnsM w' P k mk b (if (A s.data.toList).isSome then n - 1 else n) (delA A s.data.toList) ∧ w.grownBy w' (some b) ∧ w'.heap.size = w.heap.size := by
  obtain ⟨D, hown, hsees, hsz⟩ := h
  obtain ⟨w', hrun, hown', hg⟩ := hown.drop (string_keyed hk) ht (WideMaps.keyOf_string_mk hk hs) ty
  have hsd := Maps.size_del (k := .string s.data.toList) (hown.tidy (string_keyed hk))
  rw [hsees.has, hsz] at hsd
  have e1 : Maps.size (D.del (.string s.data.toList)) = if (A s.data.toList).isSome then n - 1 else n := by
    cases hA : (A s.data.toList).isSome <;> simp [hA] at hsd ⊢ <;> omega
  refine ⟨w', hrun, ⟨_, ?_, hsees.del _, e1⟩, hg.grown, ?_⟩
  · have := owns_exact hown'
    rwa [e1] at this
  · obtain ⟨es, clock, es', clock', hb, rfl⟩ := hg
    simp [ChangeMaps.setBlock]
/-- The loop over the map, under way: 'left' says which keys are still to come. -/
def RangesM (w : World) (P : Program) (k : TypeId) (mk : α → Value) (b r n : Nat) (A : List UInt8 → Option α) (left : List UInt8 → Bool) (cnt : Nat) : Prop :=
  ∃ D lt, w.ranges P k (reads mk) b r n D lt cnt ∧ Sees D A ∧ Maps.size D = n ∧ ∀ l, lt (.string l) = left l
theorem OwnsM.range {t e : TypeId} (h : OwnsM w P k mk b n A) (hk : P.underlying k = some .string) (ht : P.underlying t = some (.map k e)) :
    ∃ w', (Instr.range t (.map (some b))).run P w = .ok (.pointer (some ⟨w.heap.size, 0, none⟩)) w' ∧ RangesM w' P k mk b w.heap.size n A (fun l => (A l).isSome) n ∧ w.grownBy w' none ∧ w'.heap.size = w.heap.size + 1 := by
  obtain ⟨D, hown, hsees, hsz⟩ := h
  obtain ⟨w', hrun, hr, hg, hs⟩ := hown.range (string_keyed hk) ht
  rw [hsz] at hr
  exact ⟨w', hrun, ⟨D, _, hr, hsees, hsz, fun l => hsees.has l⟩, hg, hs⟩
theorem RangesM.owns {r cnt : Nat} {left : List UInt8 → Bool} (h : RangesM w P k mk b r n A left cnt) : OwnsM w P k mk b n A := by
  obtain ⟨D, lt, hr, hsees, hsz, -⟩ := h
  exact ⟨D, hr.owns, hsees, hsz⟩
theorem RangesM.left_eq {r cnt : Nat} {left : List UInt8 → Bool} (h : RangesM w P k mk b r n A left cnt) : w.rangeLeft b r = cnt := by
  obtain ⟨D, lt, hr, -⟩ := h
  exact hr.left_eq
theorem RangesM.lt {r cnt : Nat} {left : List UInt8 → Bool} (h : RangesM w P k mk b r n A left cnt) : r < w.heap.size := by
  obtain ⟨D, lt, hr, -⟩ := h
  exact hr.lt
theorem RangesM.iter {r cnt : Nat} {left : List UInt8 → Bool} (h : RangesM w P k mk b r n A left cnt) : ∃ s seen c, w.heap[r]? = some (.mapIter (some b) s seen c) := by
  obtain ⟨D, lt, ⟨es, clock, since, seen, c0, _, _, _, _, hr, _⟩, _⟩ := h
  exact ⟨_, _, _, hr⟩
theorem RangesM.at {w' : World} {r cnt : Nat} {left : List UInt8 → Bool} (h : RangesM w P k mk b r n A left cnt) (e : w'.heap[b]? = w.heap[b]?) (e' : w'.heap[r]? = w.heap[r]?) : RangesM w' P k mk b r n A left cnt := by
  obtain ⟨D, lt, ⟨es, clock, since, seen, c0, hb, F, hs, hD, hr, rest⟩, r2⟩ := h
  exact ⟨D, lt, ⟨es, clock, since, seen, c0, e.trans hb, F, hs, hD, e'.trans hr, rest⟩, r2⟩
/-- The step: nothing is left, or some key comes whose entry is the function's. -/
theorem RangesM.next {r cnt : Nat} {left : List UInt8 → Bool} (h : RangesM w P k mk b r n A left cnt) (hk : P.underlying k = some .string) (ty : TypeId) :
    (cnt = 0 ∧ (∀ l, left l = false) ∧ (Instr.next (.pointer (some ⟨r, 0, none⟩)) false ty).run P w = .ok (.tuple #[.bool false]) w) ∨
    ∃ (s : ByteArray) (x : α) (w' : World) (cnt' : Nat), s.size ≤ maxLen ∧ left s.data.toList = true ∧ A s.data.toList = some x ∧
      (Instr.next (.pointer (some ⟨r, 0, none⟩)) false ty).run P w = .ok (.tuple #[.bool true, .string s, mk x]) w' ∧
      RangesM w' P k mk b r n A (fun l => left l && !decide (l = s.data.toList)) cnt' ∧ cnt' < cnt ∧ w.grownBy w' (some r) ∧ w'.heap.size = w.heap.size ∧
      (Instr.entry (.pointer (some ⟨r, 0, none⟩))).run P w' = .ok (.tuple #[.string s, mk x]) w' := by
  obtain ⟨D, lt, hr, hsees, hsz, hl⟩ := h
  rcases hr.next (string_keyed hk) ty with ⟨h0, hl0, hrun⟩ | ⟨key, v, kl, y, w', cnt', hkey, hlk, hv, hat, hrun, hrg, hlt, hgr, hsz', hen⟩
  · exact Or.inl ⟨h0, fun l => by rw [← hl]; exact hl0 _, hrun⟩
  · obtain ⟨s, rfl, rfl, hs⟩ := WideMaps.string_of_keyOf hk hkey
    obtain ⟨x, rfl, rfl⟩ := reads_inv hv
    refine Or.inr ⟨s, x, w', cnt', ?_, by rw [← hl]; exact hlk, ?_, hrun, ⟨D, _, hrg, hsees, hsz, fun l => ?_⟩, hlt, hgr, hsz', hen⟩
    · assumption
    · have h1 := hat .nil
      rw [hsees.at_] at h1
      cases hA : A s.data.toList <;> simp [hA] at h1
      rw [h1]
    · show (lt (.string l) && !Lit.sameKey (.string l) (.string s.data.toList)) = _
      rw [hl]
      congr 2
      by_cases e : l = s.data.toList
      · subst e
        rw [WideAt.sameKey_self (keyLit _)]
        simp
      · rw [Maps.sameKey_ne (by intro h; cases h; exact e rfl)]
        simp [e]
end
end Go.Proofs.YtidcbcljeofooaaGreatDoor
