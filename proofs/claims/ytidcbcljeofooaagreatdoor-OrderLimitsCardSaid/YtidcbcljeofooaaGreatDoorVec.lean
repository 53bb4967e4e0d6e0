/- The plain model of chapter 3's vectors: four integers each; when they are formed, within one another, their order, their sums. No program is in sight. -/
import Derived.Below
namespace Go.Proofs.YtidcbcljeofooaaGreatDoor
/-- A vector. -/
abbrev V := Int × Int × Int × Int
def ok1 (a : Int) : Bool := decide (0 ≤ a ∧ a ≤ 1099511627776)
def formedB (a b c d : Int) : Bool := ok1 a && ok1 b && ok1 c && ok1 d
def fitsB (a b c d a' b' c' d' : Int) : Bool := decide (a ≤ a' ∧ b ≤ b' ∧ c ≤ c' ∧ d ≤ d')
def okV (v : V) : Bool := formedB v.1 v.2.1 v.2.2.1 v.2.2.2
def fitsV (v u : V) : Bool := fitsB v.1 v.2.1 v.2.2.1 v.2.2.2 u.1 u.2.1 u.2.2.1 u.2.2.2
def vv (v : V) : Value := .agg #[.int .i64 v.1, .int .i64 v.2.1, .int .i64 v.2.2.1, .int .i64 v.2.2.2]
def addV (s v : V) : V := (s.1 + v.1, s.2.1 + v.2.1, s.2.2.1 + v.2.2.1, s.2.2.2 + v.2.2.2)
def subV (s v : V) : V := (s.1 - v.1, s.2.1 - v.2.1, s.2.2.1 - v.2.2.1, s.2.2.2 - v.2.2.2)
def zeroV : V := (0, 0, 0, 0)
def cmpI (a b : Int) : Int := if a < b then -1 else if b < a then 1 else 0
def cmpB (a b c d a' b' c' d' : Int) : Int :=
  if cmpI a a' ≠ 0 then cmpI a a' else if cmpI b b' ≠ 0 then cmpI b b' else if cmpI c c' ≠ 0 then cmpI c c' else cmpI d d'
def sumGo : V → List V → Option V
  | s, [] => some s
  | s, v :: l => if okV (addV s v) then sumGo (addV s v) l else none
/-- The sum of the chapter: the vector, and the error's number. -/
def sumR (l : List V) : V × Int := if l.all okV then (match sumGo zeroV l with | some s => (s, 0) | none => (zeroV, 7)) else (zeroV, 4)
def subR (a b : V) : V × Int := if okV a && okV b then (if fitsV b a then (subV a b, 0) else (zeroV, 2)) else (zeroV, 4)
theorem sumR_form {l : List V} (h : l.all okV = false) : sumR l = (zeroV, 4) := by unfold sumR; rw [h]; rfl
theorem sumR_over {l : List V} (h : l.all okV = true) (h' : sumGo zeroV l = none) : sumR l = (zeroV, 7) := by unfold sumR; rw [h, h']; rfl
theorem sumR_ok {l : List V} {s : V} (h : l.all okV = true) (h' : sumGo zeroV l = some s) : sumR l = (s, 0) := by unfold sumR; rw [h, h']; rfl
theorem ok1_iff (a : Int) : ok1 a = true ↔ 0 ≤ a ∧ a ≤ 1099511627776 := by unfold ok1; simp
theorem okV_iff (v : V) : okV v = true ↔ (0 ≤ v.1 ∧ v.1 ≤ 1099511627776) ∧ (0 ≤ v.2.1 ∧ v.2.1 ≤ 1099511627776) ∧ (0 ≤ v.2.2.1 ∧ v.2.2.1 ≤ 1099511627776) ∧ (0 ≤ v.2.2.2 ∧ v.2.2.2 ≤ 1099511627776) := by
  unfold okV formedB; simp [ok1_iff, and_assoc]
theorem all_drop {l : List V} {k : Nat} (hk : k < l.length) : (l.drop k).all okV = (okV l[k] && (l.drop (k + 1)).all okV) := by
  rw [List.drop_eq_getElem_cons hk, List.all_cons]
theorem sumGo_drop {l : List V} {k : Nat} {s : V} (hk : k < l.length) : sumGo s (l.drop k) = if okV (addV s l[k]) then sumGo (addV s l[k]) (l.drop (k + 1)) else none := by
  rw [List.drop_eq_getElem_cons hk, sumGo]
/-- The reference's sum of two. -/
def addR (x y : V) : V × Int := if okV x && okV y then (if okV (addV x y) then (addV x y, 0) else (zeroV, 7)) else (zeroV, 4)
def subR' (x y : V) : V × Int := if okV x && okV y then (if okV (subV x y) then (subV x y, 0) else (zeroV, 2)) else (zeroV, 4)
theorem addR_form {x y : V} (h : (okV x && okV y) = false) : addR x y = (zeroV, 4) := by unfold addR; rw [h]; rfl
theorem addR_over {x y : V} (h : okV x = true) (h' : okV y = true) (h2 : okV (addV x y) = false) : addR x y = (zeroV, 7) := by unfold addR; rw [h, h', h2]; rfl
theorem addR_ok {x y : V} (h : okV x = true) (h' : okV y = true) (h2 : okV (addV x y) = true) : addR x y = (addV x y, 0) := by unfold addR; rw [h, h', h2]; rfl
theorem subR_form {x y : V} (h : (okV x && okV y) = false) : subR x y = (zeroV, 4) := by unfold subR; rw [h]; rfl
theorem subR_range {x y : V} (h : okV x = true) (h' : okV y = true) (h2 : fitsV y x = false) : subR x y = (zeroV, 2) := by unfold subR; rw [h, h', h2]; rfl
theorem subR_ok {x y : V} (h : okV x = true) (h' : okV y = true) (h2 : fitsV y x = true) : subR x y = (subV x y, 0) := by unfold subR; rw [h, h', h2]; rfl
theorem fitsV_iff (y x : V) : fitsV y x = true ↔ y.1 ≤ x.1 ∧ y.2.1 ≤ x.2.1 ∧ y.2.2.1 ≤ x.2.2.1 ∧ y.2.2.2 ≤ x.2.2.2 := by unfold fitsV fitsB; simp
theorem fits_sub {x y : V} (h : okV x = true) (h' : okV y = true) : okV (subV x y) = fitsV y x := by
  rw [Bool.eq_iff_iff, okV_iff, fitsV_iff]
  have h := (okV_iff _).1 h
  have h' := (okV_iff _).1 h'
  simp only [subV]
  omega
theorem zero_add (x : V) : addV zeroV x = x := by obtain ⟨a, b, c, d⟩ := x; simp [addV, zeroV]
theorem sumR_two (x y : V) : sumR [x, y] = addR x y := by
  unfold sumR addR
  simp only [List.all_cons, List.all_nil, Bool.and_true]
  by_cases h : (okV x && okV y) = true
  · rw [if_pos h, if_pos h]
    simp only [Bool.and_eq_true] at h
    simp only [sumGo, zero_add, h.1, if_true]
    by_cases h2 : okV (addV x y) = true
    · rw [if_pos h2, if_pos h2]
    · rw [if_neg h2, if_neg h2]
  · rw [if_neg h, if_neg h]
/-- The reference's sum of a list: each next one is added to what there is. -/
theorem sumGo_next (s v : V) (l : List V) (hs : okV s = true) (hv : okV v = true) : sumGo s (v :: l) = (if (addR s v).2 = 0 then sumGo (addR s v).1 l else none) := by
  rw [sumGo]
  by_cases h : okV (addV s v) = true
  · rw [addR_ok hs hv h, if_pos h]; rfl
  · rw [if_neg h, addR_over hs hv (by simpa using h)]; rfl
end Go.Proofs.YtidcbcljeofooaaGreatDoor
