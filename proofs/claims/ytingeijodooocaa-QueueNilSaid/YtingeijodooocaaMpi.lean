/- A map from int64 to values of one shape, as a function of the key (gen14m.py off XMap): look-up, store, delete, length, range. No program is in sight. -/
import Derived.Test.YtingeijodooocaaMap
namespace Go.Proofs.Ytingeijodooocaa
open Go.RowKit Go.Maps Go.WideShapes
section
variable {α : Type}
/-- The datum is the function A of the key's bytes. -/
structure SeesI (D : DataW α) (A : Int → Option α) : Prop where
  has : ∀ k, Maps.has D (.int .i64 k) = (A k).isSome
  at_ : ∀ k z, D.atKey (.int .i64 k) z = (match A k with | some x => .held x | none => z)
/-- Block b is a map of just n entries that is the function A. -/
def OwnsI (w : World) (P : Program) (k : TypeId) (mk : α → Value) (b n : Nat) (A : Int → Option α) : Prop := ∃ D, w.ownsMap P k (reads mk) b n D ∧ SeesI D A ∧ Maps.size D = n
def putI (A : Int → Option α) (k : Int) (x : α) : Int → Option α := fun j => if j = k then some x else A j
def delI (A : Int → Option α) (k : Int) : Int → Option α := fun j => if j = k then none else A j
def noI : Int → Option α := fun _ => none
theorem putI_same (A : Int → Option α) (k : Int) (x : α) : putI A k x k = some x := by simp [putI]
theorem putI_other (A : Int → Option α) {k j : Int} (x : α) (h : j ≠ k) : putI A k x j = A j := by simp [putI, h]
theorem delI_same (A : Int → Option α) (k : Int) : delI A k k = none := by simp [delI]
theorem delI_other (A : Int → Option α) {k j : Int} (h : j ≠ k) : delI A k j = A j := by simp [delI, h]
variable {P : Program} {k : TypeId} {mk : α → Value} {w : World} {b n : Nat} {A : Int → Option α}
theorem keyLitI (l : Int) : WideAt.IsKeyLit (.int .i64 l) := trivial
theorem sees_noneI : SeesI (.map [] : DataW α) noI := ⟨fun _ => rfl, fun _ _ => rfl⟩
theorem SeesI.put {D : DataW α} (h : SeesI D A) (hm : Maps.IsMap D) (l : Int) (x : α) : SeesI (D.put (.int .i64 l) (.held x)) (putI A l x) := by
  refine ⟨fun j => ?_, fun j z => ?_⟩
  · by_cases e : j = l
    · subst e; rw [Maps.has_put_same hm (keyLitI _), putI_same]; rfl
    · rw [Maps.has_put_other (by intro h; cases h; exact e rfl), putI_other _ _ e, h.has]
  · by_cases e : j = l
    · subst e; rw [Maps.atKey_put_same hm (keyLitI _), putI_same]
    · rw [Maps.atKey_put_other (by intro h; cases h; exact e rfl), putI_other _ _ e, h.at_]
theorem SeesI.del {D : DataW α} (h : SeesI D A) (l : Int) : SeesI (D.del (.int .i64 l)) (delI A l) := by
  refine ⟨fun j => ?_, fun j z => ?_⟩
  · by_cases e : j = l
    · subst e; rw [Maps.has_del_same, delI_same]; rfl
    · rw [Maps.has_del_other (by intro h; cases h; exact e rfl), delI_other _ e, h.has]
  · by_cases e : j = l
    · subst e; rw [Maps.atKey_del_same, delI_same]
    · rw [Maps.atKey_del_other (by intro h; cases h; exact e rfl), delI_other _ e, h.at_]
theorem owns_exactI {D : DataW α} (h : w.ownsMap P k (reads mk) b n D) : w.ownsMap P k (reads mk) b (Maps.size D) D := by
  obtain ⟨es, clock, hb, F, hs, hD⟩ := h
  refine ⟨es, clock, hb, F, ?_, hD⟩
  rw [hD]
  simp [Maps.size, length_sorted]
theorem OwnsI.made (w : World) (P : Program) (k : TypeId) (mk : α → Value) : OwnsI (w.alloc (.map #[] 0)) P k mk w.heap.size 0 noI :=
  ⟨_, World.ownsMap_made w P k _, sees_noneI, rfl⟩
theorem OwnsI.at {w' : World} (h : OwnsI w P k mk b n A) (e : w'.heap[b]? = w.heap[b]?) : OwnsI w' P k mk b n A := by
  obtain ⟨D, ⟨es, clock, hb, F, hs, hD⟩, r⟩ := h
  exact ⟨D, ⟨es, clock, e.trans hb, F, hs, hD⟩, r⟩
theorem OwnsI.lt (h : OwnsI w P k mk b n A) : b < w.heap.size := by
  obtain ⟨D, h, _⟩ := h
  exact h.lt
theorem OwnsI.isMap (h : OwnsI w P k mk b n A) : ∃ es clock, w.heap[b]? = some (.map es clock) := by
  obtain ⟨D, ⟨es, clock, hb, _⟩, _⟩ := h
  exact ⟨es, clock, hb⟩
theorem OwnsI.ne {b' : Nat} {cs : Array Value} {t : TypeId} {f : Nat × Nat} (h : OwnsI w P k mk b n A) (hc : w.heap[b']? = some (.cells cs t f)) : b' ≠ b := by
  obtain ⟨es, clock, hb⟩ := h.isMap
  intro e
  rw [e, hb] at hc
  cases hc
/-- 'm[k]'. -/
theorem OwnsI.look {t e : TypeId} (h : OwnsI w P k mk b n A) (inj : ∀ x y, mk x = mk y → x = y) (hk : P.underlying k = some (.int .i64)) (ht : P.underlying t = some (.map k e)) {x0 : α} (hz : (zeroValue e).run P w = .ok (mk x0) w) {s : Int} (hs : (Lit.int .i64 s).wf = true) :
    (Instr.lookup t (.map (some b)) (.int .i64 s) false).run P w = .ok (mk ((A s).getD x0)) w := by
  obtain ⟨D, hown, hsees, -⟩ := h
  obtain ⟨v, ps, hrun, hv⟩ := hown.lookup (int_keyed hk) ht hz (reads_mk inj x0) (Maps.keyOf_int_mk hk hs)
  obtain ⟨x, rfl, hx⟩ := reads_inv hv
  rw [hsees.at_] at hx
  rw [hrun]
  cases hA : A s <;> simp [hA] at hx <;> simp [hx]
/-- 'v, ok := m[k]'. -/
theorem OwnsI.look_ok {t e : TypeId} (h : OwnsI w P k mk b n A) (inj : ∀ x y, mk x = mk y → x = y) (hk : P.underlying k = some (.int .i64)) (ht : P.underlying t = some (.map k e)) {x0 : α} (hz : (zeroValue e).run P w = .ok (mk x0) w) {s : Int} (hs : (Lit.int .i64 s).wf = true) :
    (Instr.lookup t (.map (some b)) (.int .i64 s) true).run P w = .ok (.tuple #[mk ((A s).getD x0), .bool (A s).isSome]) w := by
  obtain ⟨D, hown, hsees, -⟩ := h
  obtain ⟨v, ps, hrun, hv⟩ := hown.look_ok (int_keyed hk) ht hz (reads_mk inj x0) (Maps.keyOf_int_mk hk hs)
  obtain ⟨x, rfl, hx⟩ := reads_inv hv
  rw [hsees.at_] at hx
  rw [hrun, hsees.has]
  cases hA : A s <;> simp [hA] at hx <;> simp [hx]
/-- 'len(m)'. -/
theorem OwnsI.len {t e : TypeId} (h : OwnsI w P k mk b n A) (ht : P.underlying t = some (.map k e)) (ty : TypeId) : (Builtin.len_ #[t] ty #[.map (some b)]).run P w = .ok (.int .i64 n) w := by
  obtain ⟨D, hown, -, hn⟩ := h
  rw [hown.len ht, hn]
/-- 'm[k] = v'. -/
theorem OwnsI.store {t e : TypeId} (h : OwnsI w P k mk b n A) (inj : ∀ x y, mk x = mk y → x = y) (hk : P.underlying k = some (.int .i64)) (ht : P.underlying t = some (.map k e)) (hn : n < maxLen) {s : Int} (hs : (Lit.int .i64 s).wf = true) (x : α) :
    ∃ w', (Instr.mapUpdate t (.map (some b)) (.int .i64 s) (mk x)).run P w = .ok () w' ∧ OwnsI w' P k mk b (if (A s).isSome then n else n + 1) (putI A s x) ∧ w.grownBy w' (some b) ∧ w'.heap.size = w.heap.size := by
  obtain ⟨D, hown, hsees, hsz⟩ := h
  obtain ⟨w', hrun, hown', hg⟩ := hown.store (int_keyed hk) ht hn (Maps.keyOf_int_mk hk hs) (reads_mk inj x)
  refine ⟨w', hrun, ⟨_, ?_, hsees.put hown.isMap _ x, ?_⟩, hg.grown, ?_⟩
  · have := owns_exactI hown'
    rwa [Maps.size_put (hown.tidy (int_keyed hk)), hsz, hsees.has] at this
  · rw [Maps.size_put (hown.tidy (int_keyed hk)), hsz, hsees.has]
  · obtain ⟨es, clock, es', clock', hb, rfl⟩ := hg
    simp [ChangeMaps.setBlock]
/-- 'delete(m, k)'. -/
theorem OwnsI.drop {t e : TypeId} (h : OwnsI w P k mk b n A) (hk : P.underlying k = some (.int .i64)) (ht : P.underlying t = some (.map k e)) {s : Int} (hs : (Lit.int .i64 s).wf = true) (ty : TypeId) :
    ∃ w', (Builtin.delete_ #[t, k] ty #[.map (some b), .int .i64 s]).run P w = .ok (.tuple #[]) w' ∧ OwnsI w' P k mk b (if (A s).isSome then n - 1 else n) (delI A s) ∧ w.grownBy w' (some b) ∧ w'.heap.size = w.heap.size := by
  obtain ⟨D, hown, hsees, hsz⟩ := h
  obtain ⟨w', hrun, hown', hg⟩ := hown.drop (int_keyed hk) ht (Maps.keyOf_int_mk hk hs) ty
  have hsd := Maps.size_del (k := .int .i64 s) (hown.tidy (int_keyed hk))
  rw [hsees.has, hsz] at hsd
  have e1 : Maps.size (D.del (.int .i64 s)) = if (A s).isSome then n - 1 else n := by
    cases hA : (A s).isSome <;> simp [hA] at hsd ⊢ <;> omega
  refine ⟨w', hrun, ⟨_, ?_, hsees.del _, e1⟩, hg.grown, ?_⟩
  · have := owns_exactI hown'
    rwa [e1] at this
  · obtain ⟨es, clock, es', clock', hb, rfl⟩ := hg
    simp [ChangeMaps.setBlock]
/-- The loop over the map, under way: 'left' says which keys are still to come. -/
def RangesI (w : World) (P : Program) (k : TypeId) (mk : α → Value) (b r n : Nat) (A : Int → Option α) (left : Int → Bool) (cnt : Nat) : Prop :=
  ∃ D lt, w.ranges P k (reads mk) b r n D lt cnt ∧ SeesI D A ∧ Maps.size D = n ∧ ∀ l, lt (.int .i64 l) = left l
theorem OwnsI.range {t e : TypeId} (h : OwnsI w P k mk b n A) (hk : P.underlying k = some (.int .i64)) (ht : P.underlying t = some (.map k e)) :
    ∃ w', (Instr.range t (.map (some b))).run P w = .ok (.pointer (some ⟨w.heap.size, 0, none⟩)) w' ∧ RangesI w' P k mk b w.heap.size n A (fun l => (A l).isSome) n ∧ w.grownBy w' none ∧ w'.heap.size = w.heap.size + 1 := by
  obtain ⟨D, hown, hsees, hsz⟩ := h
  obtain ⟨w', hrun, hr, hg, hs⟩ := hown.range (int_keyed hk) ht
  rw [hsz] at hr
  exact ⟨w', hrun, ⟨D, _, hr, hsees, hsz, fun l => hsees.has l⟩, hg, hs⟩
theorem RangesI.owns {r cnt : Nat} {left : Int → Bool} (h : RangesI w P k mk b r n A left cnt) : OwnsI w P k mk b n A := by
  obtain ⟨D, lt, hr, hsees, hsz, -⟩ := h
  exact ⟨D, hr.owns, hsees, hsz⟩
theorem RangesI.left_eq {r cnt : Nat} {left : Int → Bool} (h : RangesI w P k mk b r n A left cnt) : w.rangeLeft b r = cnt := by
  obtain ⟨D, lt, hr, -⟩ := h
  exact hr.left_eq
theorem RangesI.lt {r cnt : Nat} {left : Int → Bool} (h : RangesI w P k mk b r n A left cnt) : r < w.heap.size := by
  obtain ⟨D, lt, hr, -⟩ := h
  exact hr.lt
theorem RangesI.iter {r cnt : Nat} {left : Int → Bool} (h : RangesI w P k mk b r n A left cnt) : ∃ s seen c, w.heap[r]? = some (.mapIter (some b) s seen c) := by
  obtain ⟨D, lt, ⟨es, clock, since, seen, c0, _, _, _, _, hr, _⟩, _⟩ := h
  exact ⟨_, _, _, hr⟩
theorem RangesI.at {w' : World} {r cnt : Nat} {left : Int → Bool} (h : RangesI w P k mk b r n A left cnt) (e : w'.heap[b]? = w.heap[b]?) (e' : w'.heap[r]? = w.heap[r]?) : RangesI w' P k mk b r n A left cnt := by
  obtain ⟨D, lt, ⟨es, clock, since, seen, c0, hb, F, hs, hD, hr, rest⟩, r2⟩ := h
  exact ⟨D, lt, ⟨es, clock, since, seen, c0, e.trans hb, F, hs, hD, e'.trans hr, rest⟩, r2⟩
/-- The step: nothing is left, or some key comes whose entry is the function's. -/
theorem RangesI.next {r cnt : Nat} {left : Int → Bool} (h : RangesI w P k mk b r n A left cnt) (hk : P.underlying k = some (.int .i64)) (ty : TypeId) :
    (cnt = 0 ∧ (∀ l, left l = false) ∧ (Instr.next (.pointer (some ⟨r, 0, none⟩)) false ty).run P w = .ok (.tuple #[.bool false]) w) ∨
    ∃ (s : Int) (x : α) (w' : World) (cnt' : Nat), (Lit.int .i64 s).wf = true ∧ left s = true ∧ A s = some x ∧
      (Instr.next (.pointer (some ⟨r, 0, none⟩)) false ty).run P w = .ok (.tuple #[.bool true, .int .i64 s, mk x]) w' ∧
      RangesI w' P k mk b r n A (fun l => left l && !decide (l = s)) cnt' ∧ cnt' < cnt ∧ w.grownBy w' (some r) ∧ w'.heap.size = w.heap.size ∧
      (Instr.entry (.pointer (some ⟨r, 0, none⟩))).run P w' = .ok (.tuple #[.int .i64 s, mk x]) w' := by
  obtain ⟨D, lt, hr, hsees, hsz, hl⟩ := h
  rcases hr.next (int_keyed hk) ty with ⟨h0, hl0, hrun⟩ | ⟨key, v, kl, y, w', cnt', hkey, hlk, hv, hat, hrun, hrg, hlt, hgr, hsz', hen⟩
  · exact Or.inl ⟨h0, fun l => by rw [← hl]; exact hl0 _, hrun⟩
  · obtain ⟨s, rfl, rfl, hs⟩ := Maps.keyOf_int_inv hk hkey
    obtain ⟨x, rfl, rfl⟩ := reads_inv hv
    refine Or.inr ⟨s, x, w', cnt', ?_, by rw [← hl]; exact hlk, ?_, hrun, ⟨D, _, hrg, hsees, hsz, fun l => ?_⟩, hlt, hgr, hsz', hen⟩
    · assumption
    · have h1 := hat .nil
      rw [hsees.at_] at h1
      cases hA : A s <;> simp [hA] at h1
      rw [h1]
    · show (lt (.int .i64 l) && !Lit.sameKey (.int .i64 l) (.int .i64 s)) = _
      rw [hl]
      congr 2
      by_cases e : l = s
      · subst e
        rw [WideAt.sameKey_self (keyLitI _)]
        simp
      · rw [Maps.sameKey_ne (by intro h; cases h; exact e rfl)]
        simp [e]
end
end Go.Proofs.Ytingeijodooocaa
