/- The reference's ledger of chapter 13: a row of accounts, nine cells each; find's contract. -/
import Derived.Test.YtobgolceggeogaaLedW
import Derived.OwnWalk
import Derived.Deep.AppendLies
import Derived.Laws.OwnMore
import Derived.Lib.IndexBytes
namespace Go.Proofs.Ytobgolceggeogaa
open Go.RowKit
/-- An account of the reference: name, limit, what is used. -/
abbrev RA := ByteArray × V × V
def cellsA (x : RA) : List Value := [.string x.1, .int .i64 x.2.1.1, .int .i64 x.2.1.2.1, .int .i64 x.2.1.2.2.1, .int .i64 x.2.1.2.2.2, .int .i64 x.2.2.1, .int .i64 x.2.2.2.1, .int .i64 x.2.2.2.2.1, .int .i64 x.2.2.2.2.2]
def flatA : List RA → List Value
  | [] => []
  | x :: l => cellsA x ++ flatA l
theorem flatA_length (l : List RA) : (flatA l).length = l.length * 9 := by
  induction l with
  | nil => rfl
  | cons v l ih => simp only [flatA, List.length_append, List.length_cons, ih, cellsA, List.length_nil]; omega
theorem flatA_append (l l' : List RA) : flatA (l ++ l') = flatA l ++ flatA l' := by
  induction l with
  | nil => rfl
  | cons v l ih => simp [flatA, ih]
theorem cellsA_one (x : RA) : ∀ u ∈ cellsA x, u.oneCell' = true := by
  intro u h
  simp only [cellsA, List.mem_cons, List.not_mem_nil, or_false] at h
  rcases h with rfl | rfl | rfl | rfl | rfl | rfl | rfl | rfl | rfl <;> rfl
theorem flatA_one (l : List RA) : ∀ u ∈ flatA l, u.oneCell' = true := by
  induction l with
  | nil => intro u h; simp [flatA] at h
  | cons v l ih =>
    intro u h
    simp only [flatA, List.mem_append] at h
    rcases h with h | h
    · exact cellsA_one v u h
    · exact ih u h
theorem flatA_at (l : List RA) : ∀ j, (h : j < l.length) → ∀ c, c < 9 → (flatA l)[j * 9 + c]? = (cellsA l[j])[c]? := by
  induction l with
  | nil => intro j h; simp at h
  | cons v l ih =>
    intro j h c hc
    cases j with
    | zero =>
      simp only [flatA, Nat.zero_mul, Nat.zero_add, List.getElem_cons_zero]
      rw [List.getElem?_append_left (by simp [cellsA]; omega)]
    | succ j =>
      have hj : j < l.length := by simpa using h
      have := ih j hj c hc
      simp only [flatA]
      rw [List.getElem?_append_right (by simp [cellsA]; omega), show (j + 1) * 9 + c - (cellsA v).length = j * 9 + c by simp [cellsA]; omega]
      exact this
theorem flatA_set (l : List RA) : ∀ j, (h : j < l.length) → ∀ x : RA, ∀ c, c < 9 → ∀ u, (cellsA x)[c]? = some u → (∀ c', c' < 9 → c' ≠ c → (cellsA x)[c']? = (cellsA l[j])[c']?) → (flatA l).set (j * 9 + c) u = flatA (l.set j x) := by
  induction l with
  | nil => intro j h; simp at h
  | cons v l ih =>
    intro j h x c hc u hu hx
    cases j with
    | zero =>
      simp only [flatA, Nat.zero_mul, Nat.zero_add, List.set_cons_zero, List.getElem_cons_zero] at hx ⊢
      rw [List.set_append_left _ _ (by simp [cellsA]; omega)]
      congr 1
      refine List.ext_getElem? fun i => ?_
      by_cases e : i = c
      · subst e
        rw [List.getElem?_set_self (by simp [cellsA]; omega), hu]
      · rw [List.getElem?_set_ne (Ne.symm e)]
        by_cases hi : i < 9
        · rw [hx i hi e]
        · rw [List.getElem?_eq_none (by simp [cellsA]; omega), List.getElem?_eq_none (by simp [cellsA]; omega)]
    | succ j =>
      have hj : j < l.length := by simpa using h
      have := ih j hj x c hc u hu hx
      simp only [flatA, List.set_cons_succ]
      rw [List.set_append_right _ _ (by simp [cellsA]; omega), show (j + 1) * 9 + c - (cellsA v).length = j * 9 + c by simp [cellsA]; omega, this]
theorem str_ne {x s : ByteArray} (h : ¬ x = s) : (x.toList == s.toList) = false := by
  rw [Go.Lib.toList_data, Go.Lib.toList_data]
  simp only [beq_eq_false_iff_ne, ne_eq]
  exact fun e => h (Go.WideShapes.bytes_inj e)
/-- The place of a name; -1: there is none. -/
def findI (l : List RA) (s : ByteArray) : Int := match l with
  | [] => -1
  | x :: l => if x.1 = s then 0 else (if findI l s < 0 then -1 else findI l s + 1)
theorem findI_ge : ∀ (l : List RA) (s : ByteArray), -1 ≤ findI l s
  | [], _ => by simp [findI]
  | x :: l, s => by
    have := findI_ge l s
    unfold findI
    split
    · omega
    · split <;> omega
/-- The place k is the first of that name. -/
theorem findI_first : ∀ (l : List RA) (s : ByteArray) (k : Nat), (h : k < l.length) → (∀ j, (hj : j < k) → l[j].1 ≠ s) → l[k].1 = s → findI l s = k
  | [], s, k, h, _, _ => by simp at h
  | x :: l, s, 0, h, _, e => by simp at e; simp [findI, e]
  | x :: l, s, k + 1, h, hj, e => by
    have h0 := hj 0 (by omega)
    simp at h0
    have := findI_first l s k (by simpa using h) (fun j hjk => by have := hj (j + 1) (by omega); simpa using this) (by simpa using e)
    unfold findI
    rw [if_neg h0, this, if_neg (by omega)]
    omega
theorem findI_none : ∀ (l : List RA) (s : ByteArray), (∀ j, (hj : j < l.length) → l[j].1 ≠ s) → findI l s = -1
  | [], s, _ => rfl
  | x :: l, s, h => by
    have h0 := h 0 (by simp)
    simp at h0
    have := findI_none l s (fun j hj => by have := h (j + 1) (by simpa using hj); simpa using this)
    unfold findI
    rw [if_neg h0, this]
    rfl
/-- The reference's ledger at block R: its row lies behind place B. -/
def RefL (B : Nat) (w : World) (R : Nat) (v : Value) (l : List RA) : Prop :=
  B ≤ R ∧ w.heap[R]? = some (.cells #[v] 39 (0, 0)) ∧ w.ownsRow B 73 9 v l.length (flatA l)
theorem RefL.below {B R : Nat} {w w' : World} {v : Value} {l : List RA} (h : RefL B w R v l) (hb : Below w.heap.size w w') : RefL B w' R v l := by
  obtain ⟨h0, h1, h2⟩ := h
  refine ⟨h0, below_at hb (lt_of_at h1) h1, ?_⟩
  obtain ⟨h3, h4 | ⟨g, cap, cur, rfl, hg, hh, rest⟩⟩ := h2
  · exact ⟨h3, .inl h4⟩
  · exact ⟨h3, .inr ⟨g, cap, cur, rfl, hg, below_at hb (lt_of_at hh) hh, rest⟩⟩
/-- What a walk wants of it where the row isn't nil. -/
theorem RefL.row {B R : Nat} {w : World} {v : Value} {l : List RA} (h : RefL B w R v l) (hn : 0 < l.length) :
    ∃ g cap, v = .slice (some ⟨g, 0, none⟩) l.length cap ∧ B ≤ g ∧ g ≠ R ∧ g < w.heap.size ∧ (∀ i, w.frozen? ⟨g, i, none⟩ = false) ∧ ∀ j, (hj : j < l.length) → ∀ c, c < 9 → w.cell? ⟨g, j * 9 + c, none⟩ = (cellsA l[j])[c]? := by
  obtain ⟨h0, h1, h3, ⟨-, h4⟩ | ⟨g, cap, cur, rfl, hg, hh, hc, -, hs, ht⟩⟩ := h
  · omega
  · refine ⟨g, cap, rfl, hg, ?_, lt_of_at hh, blk_free hh, fun j hj c hc9 => ?_⟩
    · intro e
      rw [e, h1] at hh
      injection hh with hh
      injection hh with _ h5
      exact absurd h5 (by decide)
    · rw [blk_cell hh, ← flatA_at l j hj c hc9, ← ht, List.getElem?_take, if_pos (by omega)]
      simp
set_option maxRecDepth 20000 in
set_option maxHeartbeats 2000000 in
theorem rfind_any (B R : Nat) (v : Value) (l : List RA) (s : ByteArray) (w : World) (hR : RefL B w R v l) (hm : l.length ≤ 100000) :
    Calls Try.prog 32 #[.pointer (some ⟨R, 0, none⟩), .string s] w fun e w' => e = .returned (.int .i64 (findI l s)) ∧ Below w.heap.size w w' := by
  have hlR := lt_of_at hR.2.1
  have r0 : w.cell? ⟨R, 0, none⟩ = some v := (blk_cell hR.2.1 0).trans rfl
  rcases Nat.eq_zero_or_pos l.length with h0 | h0
  · have hl : l = [] := List.length_eq_zero_iff.1 h0
    subst hl
    obtain ⟨-, -, -, ⟨rfl, -⟩ | ⟨g, cap, cur, rfl, _⟩⟩ := hR
    · go_enter Try.func32, Try.ntmps32
      go_wp2
      refine wp_loop_rounds 1 ?_
      rw [rounds_succ]
      go_wp2
      go_ret
      exact ⟨rfl, Below.refl _ _⟩
    · go_enter Try.func32, Try.ntmps32
      go_wp2
      refine wp_loop_rounds 1 ?_
      rw [rounds_succ]
      go_wp2
      go_ret
      exact ⟨rfl, Below.refl _ _⟩
  · obtain ⟨g, cap, rfl, hg, hgR, hgl, hgf, hcell⟩ := hR.row h0
    have hm' : l.length ≤ 9223372036854775807 := by omega
    clear hR h0 hm
    go_enter Try.func32, Try.ntmps32
    go_wp2
    go_loopw [5] (fun i wr => ∃ k : Nat, k ≤ l.length ∧ i = .int .i64 k ∧ Hid (∀ j, (hj : j < l.length) → j < k → l[j].1 ≠ s) ∧ Below w.heap.size w wr) (fun i _ => l.length - (intOf i).toNat)
    case atStart => exact ⟨0, Nat.zero_le _, rfl, fun j _ h => by omega, Below.refl _ _⟩
    case round =>
      obtain ⟨k, hk, rfl, hno, hbel⟩ := hrel
      have hsr := hbel.size
      have r0r : wr.cell? ⟨R, 0, none⟩ = some (.slice (some ⟨g, 0, none⟩) l.length cap) := (hbel.cell (p := ⟨R, 0, none⟩) hlR).trans r0
      by_cases hkl : k < l.length
      · have c0 : wr.cell? ⟨g, k * 9, none⟩ = some (.string l[k].1) := (hbel.cell (p := ⟨g, k * 9, none⟩) hgl).trans ((hcell k hkl 0 (by omega)).trans rfl)
        obtain ⟨x, hx⟩ : ∃ x, x = l[k].1 := ⟨_, rfl⟩
        rw [← hx] at c0
        have HX := hid hx
        clear hx
        have R1 : Hid (k + 1 ≤ l.length) := hkl
        by_cases he : x = s
        · have hf : findI l s = k := findI_first l s k hkl (fun j hj => hno.out j (by omega) hj) (HX.out.symm.trans he)
          subst he
          go_wp2
          go_ret
          exact ⟨by rw [hf]; rfl, hbel⟩
        · have hE := str_ne he
          go_wp2
          go_roundw
          case rel =>
            refine ⟨k + 1, R1.out, by go_num, fun j hj hjk => ?_, hbel⟩
            by_cases e : j = k
            · subst e; rw [← HX.out]; exact he
            · exact hno.out j hj (by omega)
          case measure => simp [intOf]; omega
      · obtain rfl : k = l.length := by omega
        have hf : findI l s = -1 := findI_none l s (fun j hj => hno.out j hj hj)
        go_wp2
        go_ret
        exact ⟨by rw [hf]; rfl, hbel⟩
end Go.Proofs.Ytobgolceggeogaa
