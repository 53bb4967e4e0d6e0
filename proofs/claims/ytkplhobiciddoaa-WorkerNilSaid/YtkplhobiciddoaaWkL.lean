/- Chapter 19's table, in plain Lean: nodes rising by their names; what Register, Beat and Expire make of them, and of the alarms of their leases. No program is in sight. -/
import Derived.Test.YtkplhobiciddoaaMap
import Derived.Test.YtkplhobiciddoaaVec
import Derived.Test.YtkplhobiciddoaaTimL
import Derived.Test.YtkplhobiciddoaaRunP
namespace Go.Proofs.Ytkplhobiciddoaa
open Go.WideShapes
/-- A node. -/
structure Nd where
  name : ByteArray
  epoch : Int
  cap : V
  seen : Int
  live : Bool
def cellsN (x : Nd) : List Value := [.string x.name, .int .i64 x.epoch, .int .i64 x.cap.1, .int .i64 x.cap.2.1, .int .i64 x.cap.2.2.1, .int .i64 x.cap.2.2.2, .int .i64 x.seen, .bool x.live]
def ndV (x : Nd) : Value := .agg (cellsN x).toArray
theorem ndV_inj : ∀ x y, ndV x = ndV y → x = y := by
  rintro ⟨a, b, ⟨c0, c1, c2, c3⟩, d, e⟩ ⟨a', b', ⟨c0', c1', c2', c3'⟩, d', e'⟩ h
  simp [ndV, cellsN] at h
  simp [h]
def zeroN : Nd := ⟨⟨#[]⟩, 0, zeroV, 0, false⟩
abbrev ky (s : ByteArray) : List UInt8 := s.data.toList
/-- The node of a name. -/
def fnd (L : List Nd) (k : List UInt8) : Option Nd := L.find? (fun x => decide (ky x.name = k))
/-- A node is put to its place, or in its namesake's. -/
def putN : List Nd → Nd → List Nd
  | [], x => [x]
  | y :: l, x => if y.name = x.name then x :: l else if ltS x.name y.name = true then x :: y :: l else y :: putN l x
def Rising (L : List Nd) : Prop := L.Pairwise (fun x y => ltS x.name y.name = true)
theorem fnd_nil : fnd [] = noA := rfl
theorem fnd_cons (y : Nd) (l : List Nd) (k : List UInt8) : fnd (y :: l) k = if ky y.name = k then some y else fnd l k := by
  unfold fnd
  rw [List.find?_cons]
  by_cases h : ky y.name = k <;> simp [h]
theorem fnd_put : ∀ (L : List Nd) (x : Nd), fnd (putN L x) = putA (fnd L) (ky x.name) x
  | [], x => by funext k; simp only [putN, fnd_cons, putA]; by_cases h : ky x.name = k <;> simp [h, Ne.symm]
  | y :: l, x => by
    funext k
    have ih := congrFun (fnd_put l x) k
    unfold putN
    split
    · rename_i h
      simp only [fnd_cons, putA]
      rw [h]
      by_cases e : ky x.name = k
      · rw [if_pos e, if_pos e.symm]
      · rw [if_neg e, if_neg (Ne.symm e), if_neg e]
    · rename_i h
      have hk : ky y.name ≠ ky x.name := fun e => h (bytes_inj e)
      split
      · simp only [fnd_cons, putA]
        by_cases e : ky x.name = k
        · rw [if_pos e, if_pos e.symm]
        · rw [if_neg e, if_neg (Ne.symm e)]
      · rw [fnd_cons, ih]
        simp only [fnd_cons, putA]
        by_cases e : ky x.name = k
        · rw [if_pos e.symm, if_pos e.symm, if_neg (fun e2 => hk (e2.trans e.symm))]
        · rw [if_neg (Ne.symm e), if_neg (Ne.symm e)]
theorem mem_of_fnd {L : List Nd} {k : List UInt8} {x : Nd} (h : fnd L k = some x) : x ∈ L ∧ ky x.name = k := by
  unfold fnd at h
  exact ⟨List.mem_of_find?_eq_some h, by simpa using List.find?_some h⟩
theorem fnd_none {L : List Nd} {k : List UInt8} (h : fnd L k = none) : ∀ x ∈ L, ky x.name ≠ k := by
  unfold fnd at h
  rw [List.find?_eq_none] at h
  intro x hx
  simpa using h x hx
theorem fnd_of_mem : ∀ {L : List Nd} (_ : Rising L) {x : Nd} (_ : x ∈ L), fnd L (ky x.name) = some x
  | [], _, x, hx => nomatch hx
  | y :: l, h, x, hx => by
    rw [fnd_cons]
    rcases List.mem_cons.1 hx with rfl | hx
    · rw [if_pos rfl]
    · have h1 := (List.pairwise_cons.1 h).1 x hx
      rw [if_neg (fun e => by rw [bytes_inj e, ltS_irr] at h1; cases h1)]
      exact fnd_of_mem (List.pairwise_cons.1 h).2 hx
theorem mem_put : ∀ {L : List Nd} (_ : Rising L) (x y : Nd), y ∈ putN L x ↔ y = x ∨ (y ∈ L ∧ y.name ≠ x.name)
  | [], _, x, y => by simp [putN]
  | z :: l, h, x, y => by
    obtain ⟨h1, h2⟩ := List.pairwise_cons.1 h
    unfold putN
    split
    · rename_i e
      simp only [List.mem_cons]
      constructor
      · rintro (rfl | hy)
        · exact .inl rfl
        · refine .inr ⟨.inr hy, fun e2 => ?_⟩
          have := h1 y hy
          rw [e, e2, ltS_irr] at this; cases this
      · rintro (rfl | ⟨rfl | hy, hn⟩)
        · exact .inl rfl
        · exact absurd e hn
        · exact .inr hy
    · rename_i e
      split
      · rename_i e2
        simp only [List.mem_cons]
        constructor
        · rintro (rfl | rfl | hy)
          · exact .inl rfl
          · exact .inr ⟨.inl rfl, e⟩
          · refine .inr ⟨.inr hy, fun e3 => ?_⟩
            have := ltS_tr e2 (h1 y hy)
            rw [e3, ltS_irr] at this; cases this
        · rintro (rfl | ⟨rfl | hy, hn⟩)
          · exact .inl rfl
          · exact .inr (.inl rfl)
          · exact .inr (.inr hy)
      · simp only [List.mem_cons, mem_put h2]
        constructor
        · rintro (rfl | rfl | ⟨hy, hn⟩)
          · exact .inr ⟨.inl rfl, e⟩
          · exact .inl rfl
          · exact .inr ⟨.inr hy, hn⟩
        · rintro (rfl | ⟨rfl | hy, hn⟩)
          · exact .inr (.inl rfl)
          · exact .inl rfl
          · exact .inr (.inr ⟨hy, hn⟩)
theorem rising_put : ∀ {L : List Nd} (_ : Rising L) (x : Nd), Rising (putN L x)
  | [], _, x => List.pairwise_singleton _ _
  | z :: l, h, x => by
    obtain ⟨h1, h2⟩ := List.pairwise_cons.1 h
    unfold putN
    split
    · rename_i e
      exact List.pairwise_cons.2 ⟨fun y hy => by rw [← e]; exact h1 y hy, h2⟩
    · rename_i e
      split
      · rename_i e2
        refine List.pairwise_cons.2 ⟨fun y hy => ?_, h⟩
        rcases List.mem_cons.1 hy with rfl | hy
        · exact e2
        · exact ltS_tr e2 (h1 y hy)
      · rename_i e2
        refine List.pairwise_cons.2 ⟨fun y hy => ?_, rising_put h2 x⟩
        rcases (mem_put h2 x y).1 hy with rfl | ⟨hy, -⟩
        · cases e3 : ltS z.name y.name
          · exact absurd (ltS_tri e3 (by simpa using e2)) e
          · rfl
        · exact h1 y hy
theorem put_length : ∀ {L : List Nd} (_ : Rising L) (x : Nd), (putN L x).length = if (fnd L (ky x.name)).isSome then L.length else L.length + 1
  | [], _, x => rfl
  | z :: l, h, x => by
    obtain ⟨h1, h2⟩ := List.pairwise_cons.1 h
    rw [fnd_cons]
    unfold putN
    split
    · rename_i e
      rw [if_pos (by rw [e, if_pos rfl]; rfl)]
      simp
    · rename_i e
      have hk : ky z.name ≠ ky x.name := fun e2 => e (bytes_inj e2)
      rw [if_neg hk]
      split
      · rename_i e2
        have : fnd l (ky x.name) = none := by
          cases hf : fnd l (ky x.name) with
          | none => rfl
          | some y =>
            obtain ⟨hy, hyk⟩ := mem_of_fnd hf
            have := ltS_tr e2 (h1 y hy)
            rw [bytes_inj hyk, ltS_irr] at this; cases this
        rw [this]
        simp
      · rw [List.length_cons, put_length h2, List.length_cons]
        split <;> rfl
/-- A list without doubles is no longer than one that holds all of it. -/
theorem nodup_len {α : Type} [DecidableEq α] : ∀ {l m : List α}, l.Nodup → (∀ x ∈ l, x ∈ m) → l.length ≤ m.length
  | [], _, _, _ => Nat.zero_le _
  | a :: l, m, h, hs => by
    obtain ⟨h1, h2⟩ := List.nodup_cons.1 h
    have ha := hs a (by simp)
    have := nodup_len (l := l) (m := m.erase a) h2 (fun x hx => (List.mem_erase_of_ne (fun e => h1 (by rw [← e]; exact hx))).2 (hs x (by simp [hx])))
    rw [List.length_erase_of_mem ha] at this
    have := List.length_pos_of_mem ha
    simp only [List.length_cons]
    omega
/-- The alarms are those of the live nodes' leases. -/
def Lk (L : List Nd) (l : List Al) : Prop := ∀ a : Al, a ∈ l ↔ ∃ x ∈ L, x.live = true ∧ a = (x.name, x.seen + 10)
theorem lk_nil : Lk [] [] := fun a => by simp
theorem Lk.le {L : List Nd} {l : List Al} (h : Lk L l) (hn : l.Nodup) (hu : ∀ x ∈ l, ∀ y ∈ l, x.1 = y.1 → x = y) : l.length ≤ L.length := by
  have h1 : (l.map (·.1)).Nodup := by
    rw [List.nodup_iff_pairwise_ne] at hn ⊢
    rw [List.pairwise_map]
    refine List.Pairwise.imp_of_mem ?_ hn
    intro a b ha hb hne e
    exact hne (hu a ha b hb e)
  have := nodup_len (l := l.map (·.1)) (m := L.map (·.name)) h1 (fun s hs => by
    obtain ⟨a, ha, rfl⟩ := List.mem_map.1 hs
    obtain ⟨x, hx, -, rfl⟩ := (h a).1 ha
    exact List.mem_map.2 ⟨x, hx, rfl⟩)
  simpa using this
/-- A live node is put in. -/
theorem Lk.put {L : List Nd} {l l' : List Al} (h : Lk L l) (hr : Rising L) (x : Nd) (hx : x.live = true) (hl : ∀ a, a ∈ l' ↔ a = (x.name, x.seen + 10) ∨ (a ∈ l ∧ a.1 ≠ x.name)) : Lk (putN L x) l' := by
  intro a
  rw [hl, h]
  constructor
  · rintro (rfl | ⟨⟨y, hy, hl, rfl⟩, hn⟩)
    · exact ⟨x, (mem_put hr x x).2 (.inl rfl), hx, rfl⟩
    · exact ⟨y, (mem_put hr x y).2 (.inr ⟨hy, hn⟩), hl, rfl⟩
  · rintro ⟨y, hy, hl, rfl⟩
    rcases (mem_put hr x y).1 hy with rfl | ⟨hy, hn⟩
    · exact .inl rfl
    · exact .inr ⟨⟨y, hy, hl, rfl⟩, hn⟩
/-- Register: was the node live, the error, the table. -/
def regR (L : List Nd) (s : ByteArray) (ep : Int) (v : V) (now : Int) : Bool × Int × List Nd :=
  if nameB s = false ∨ okV v = false then (false, 4, L)
  else if ep < 1 ∨ 2147483648 ≤ ep ∨ now < 0 ∨ 1099511627776 < now then (false, 2, L)
  else match fnd L (ky s) with
    | some x => if ep ≤ x.epoch then (false, 14, L) else (x.live, 0, putN L ⟨s, ep, v, now, true⟩)
    | none => if 12 ≤ L.length then (false, 6, L) else (false, 0, putN L ⟨s, ep, v, now, true⟩)
/-- Beat. -/
def beatR (L : List Nd) (s : ByteArray) (ep now : Int) : Int × List Nd :=
  match fnd L (ky s) with
  | none => (3, L)
  | some x => if ep ≠ x.epoch ∨ x.live = false then (14, L) else if now < x.seen ∨ 1099511627776 < now then (2, L) else (0, putN L { x with seen := now })
def getR (L : List Nd) (s : ByteArray) : Nd × Int := match fnd L (ky s) with | none => (zeroN, 3) | some x => (x, 0)
/-- Expire: which leases are over, and what is left. -/
def outN (now : Int) (x : Nd) : Bool := x.live && decide (x.seen + 10 ≤ now)
def expO (L : List Nd) (now : Int) : List Nd := L.filter (outN now)
def expL (L : List Nd) (now : Int) : List Nd := L.map (fun x => if outN now x then { x with live := false } else x)
theorem regR_form {L : List Nd} {s : ByteArray} {ep now : Int} {v : V} (h : nameB s = false ∨ okV v = false) : regR L s ep v now = (false, 4, L) := by unfold regR; rw [if_pos h]
theorem regR_range {L : List Nd} {s : ByteArray} {ep now : Int} {v : V} (h : nameB s = true) (hv : okV v = true) (h2 : ep < 1 ∨ 2147483648 ≤ ep ∨ now < 0 ∨ 1099511627776 < now) : regR L s ep v now = (false, 2, L) := by
  unfold regR; rw [if_neg (by simp [h, hv]), if_pos h2]
theorem regR_in {L : List Nd} {s : ByteArray} {ep now : Int} {v : V} (h : nameB s = true) (hv : okV v = true) (h2 : ¬ (ep < 1 ∨ 2147483648 ≤ ep ∨ now < 0 ∨ 1099511627776 < now)) : regR L s ep v now = match fnd L (ky s) with
    | some x => if ep ≤ x.epoch then (false, 14, L) else (x.live, 0, putN L ⟨s, ep, v, now, true⟩)
    | none => if 12 ≤ L.length then (false, 6, L) else (false, 0, putN L ⟨s, ep, v, now, true⟩) := by
  unfold regR; rw [if_neg (by simp [h, hv]), if_neg h2]
end Go.Proofs.Ytkplhobiciddoaa
