/- The reference's table of chapter 19: a row of nodes, eight cells each; find's contract; what is put into its place. -/
import Derived.Test.YtkplhobiciddoaaWkX
import Derived.OwnWalk
import Derived.Deep.AppendLies
import Derived.Laws.OwnMore
import Derived.Lib.IndexBytes
import Derived.BigRegion
import Derived.RegionTactic
import Derived.Deep.RegionLaw
namespace Go.Proofs.Ytkplhobiciddoaa
open Go.RowKit Go.Maps
theorem flatN_set (l : List Nd) : ∀ j, (h : j < l.length) → ∀ x : Nd, ∀ c, c < 8 → ∀ u, (cellsN x)[c]? = some u → (∀ c', c' < 8 → c' ≠ c → (cellsN x)[c']? = (cellsN l[j])[c']?) → (flatN l).set (j * 8 + c) u = flatN (l.set j x) := by
  induction l with
  | nil => intro j h; simp at h
  | cons v l ih =>
    intro j h x c hc u hu hx
    cases j with
    | zero =>
      simp only [flatN, Nat.zero_mul, Nat.zero_add, List.set_cons_zero, List.getElem_cons_zero] at hx ⊢
      rw [List.set_append_left _ _ (by simp [cellsN]; omega)]
      congr 1
      refine List.ext_getElem? fun i => ?_
      by_cases e : i = c
      · subst e
        rw [List.getElem?_set_self (by simp [cellsN]; omega), hu]
      · rw [List.getElem?_set_ne (Ne.symm e)]
        by_cases hi : i < 8
        · rw [hx i hi e]
        · rw [List.getElem?_eq_none (by simp [cellsN]; omega), List.getElem?_eq_none (by simp [cellsN]; omega)]
    | succ j =>
      have hj : j < l.length := by simpa using h
      have := ih j hj x c hc u hu hx
      simp only [flatN, List.set_cons_succ]
      rw [List.set_append_right _ _ (by simp [cellsN]; omega), show (j + 1) * 8 + c - (cellsN v).length = j * 8 + c by simp [cellsN]; omega, this]
theorem str_ne {x s : ByteArray} (h : ¬ x = s) : (x.toList == s.toList) = false := by
  rw [Go.Lib.toList_data, Go.Lib.toList_data]
  simp only [beq_eq_false_iff_ne, ne_eq]
  exact fun e => h (Go.WideShapes.bytes_inj e)
/-- The place of a name; -1: there is none. -/
def fndI (l : List Nd) (s : ByteArray) : Int := match l with
  | [] => -1
  | x :: l => if x.name = s then 0 else (if fndI l s < 0 then -1 else fndI l s + 1)
theorem fndI_ge : ∀ (l : List Nd) (s : ByteArray), -1 ≤ fndI l s
  | [], _ => by simp [fndI]
  | x :: l, s => by
    have := fndI_ge l s
    unfold fndI
    split
    · omega
    · split <;> omega
/-- The place k is the first of that name. -/
theorem fndI_first : ∀ (l : List Nd) (s : ByteArray) (k : Nat), (h : k < l.length) → (∀ j, (hj : j < k) → l[j].name ≠ s) → l[k].name = s → fndI l s = k
  | [], s, k, h, _, _ => by simp at h
  | x :: l, s, 0, h, _, e => by simp at e; simp [fndI, e]
  | x :: l, s, k + 1, h, hj, e => by
    have h0 := hj 0 (by omega)
    simp at h0
    have := fndI_first l s k (by simpa using h) (fun j hjk => by have := hj (j + 1) (by omega); simpa using this) (by simpa using e)
    unfold fndI
    rw [if_neg h0, this, if_neg (by omega)]
    omega
theorem fndI_none : ∀ (l : List Nd) (s : ByteArray), (∀ j, (hj : j < l.length) → l[j].name ≠ s) → fndI l s = -1
  | [], s, _ => rfl
  | x :: l, s, h => by
    have h0 := h 0 (by simp)
    simp at h0
    have := fndI_none l s (fun j hj => by have := h (j + 1) (by simpa using hj); simpa using this)
    unfold fndI
    rw [if_neg h0, this]
    rfl
/-- The reference's ledger at block R: its row lies behind place B. -/
def RefN (B : Nat) (w : World) (R : Nat) (v : Value) (l : List Nd) : Prop :=
  B ≤ R ∧ w.heap[R]? = some (.cells #[v] 51 (0, 0)) ∧ w.ownsRow B 34 8 v l.length (flatN l)
theorem RefN.below {B R : Nat} {w w' : World} {v : Value} {l : List Nd} (h : RefN B w R v l) (hb : Below w.heap.size w w') : RefN B w' R v l := by
  obtain ⟨h0, h1, h2⟩ := h
  refine ⟨h0, below_at hb (lt_of_at h1) h1, ?_⟩
  obtain ⟨h3, h4 | ⟨g, cap, cur, rfl, hg, hh, rest⟩⟩ := h2
  · exact ⟨h3, .inl h4⟩
  · exact ⟨h3, .inr ⟨g, cap, cur, rfl, hg, below_at hb (lt_of_at hh) hh, rest⟩⟩
/-- What a walk wants of it where the row isn't nil. -/
theorem RefN.row {B R : Nat} {w : World} {v : Value} {l : List Nd} (h : RefN B w R v l) (hn : 0 < l.length) :
    ∃ g cap, v = .slice (some ⟨g, 0, none⟩) l.length cap ∧ B ≤ g ∧ g ≠ R ∧ g < w.heap.size ∧ (∀ i, w.frozen? ⟨g, i, none⟩ = false) ∧ ∀ j, (hj : j < l.length) → ∀ c, c < 8 → w.cell? ⟨g, j * 8 + c, none⟩ = (cellsN l[j])[c]? := by
  obtain ⟨h0, h1, h3, ⟨-, h4⟩ | ⟨g, cap, cur, rfl, hg, hh, hc, -, hs, ht⟩⟩ := h
  · omega
  · refine ⟨g, cap, rfl, hg, ?_, lt_of_at hh, blk_free hh, fun j hj c hc8 => ?_⟩
    · intro e
      rw [e, h1] at hh
      injection hh with hh
      injection hh with _ h5
      exact absurd h5 (by decide)
    · rw [blk_cell hh, ← flatN_at l j hj c hc8, ← ht, List.getElem?_take, if_pos (by omega)]
      simp
set_option maxRecDepth 20000 in
set_option maxHeartbeats 2000000 in
theorem rfind_any (B R : Nat) (v : Value) (l : List Nd) (s : ByteArray) (w : World) (hR : RefN B w R v l) (hm : l.length ≤ 100000) :
    Calls Try.prog 51 #[.pointer (some ⟨R, 0, none⟩), .string s] w fun e w' => e = .returned (.int .i64 (fndI l s)) ∧ Below w.heap.size w w' := by
  have hlR := lt_of_at hR.2.1
  have r0 : w.cell? ⟨R, 0, none⟩ = some v := (blk_cell hR.2.1 0).trans rfl
  rcases Nat.eq_zero_or_pos l.length with h0 | h0
  · have hl : l = [] := List.length_eq_zero_iff.1 h0
    subst hl
    obtain ⟨-, -, -, ⟨rfl, -⟩ | ⟨g, cap, cur, rfl, _⟩⟩ := hR
    · go_enter Try.func51, Try.ntmps51
      go_wp2
      refine wp_loop_rounds 1 ?_
      rw [rounds_succ]
      go_wp2
      go_ret
      exact ⟨rfl, Below.refl _ _⟩
    · go_enter Try.func51, Try.ntmps51
      go_wp2
      refine wp_loop_rounds 1 ?_
      rw [rounds_succ]
      go_wp2
      go_ret
      exact ⟨rfl, Below.refl _ _⟩
  · obtain ⟨g, cap, rfl, hg, hgR, hgl, hgf, hcell⟩ := hR.row h0
    have hm' : l.length ≤ 9223372036854775807 := by omega
    clear hR h0 hm
    go_enter Try.func51, Try.ntmps51
    go_wp2
    go_loopw [5] (fun i wr => ∃ k : Nat, k ≤ l.length ∧ i = .int .i64 k ∧ Hid (∀ j, (hj : j < l.length) → j < k → l[j].name ≠ s) ∧ Below w.heap.size w wr) (fun i _ => l.length - (intOf i).toNat)
    case atStart => exact ⟨0, Nat.zero_le _, rfl, fun j _ h => by omega, Below.refl _ _⟩
    case round =>
      obtain ⟨k, hk, rfl, hno, hbel⟩ := hrel
      have hsr := hbel.size
      have r0r : wr.cell? ⟨R, 0, none⟩ = some (.slice (some ⟨g, 0, none⟩) l.length cap) := (hbel.cell (p := ⟨R, 0, none⟩) hlR).trans r0
      by_cases hkl : k < l.length
      · have c0 : wr.cell? ⟨g, k * 8, none⟩ = some (.string l[k].name) := (hbel.cell (p := ⟨g, k * 8, none⟩) hgl).trans ((hcell k hkl 0 (by omega)).trans rfl)
        obtain ⟨x, hx⟩ : ∃ x, x = l[k].name := ⟨_, rfl⟩
        rw [← hx] at c0
        have HX := hid hx
        clear hx
        have R1 : Hid (k + 1 ≤ l.length) := hkl
        by_cases he : x = s
        · have hf : fndI l s = k := fndI_first l s k hkl (fun j hj => hno.out j (by omega) hj) (HX.out.symm.trans he)
          subst he
          go_wp2
          go_ret
          exact ⟨by rw [hf]; rfl, hbel⟩
        · have hE := str_ne he
          go_wp2
          go_roundw
          case rel =>
            refine ⟨k + 1, R1.out, by go_num, fun j hj hjk => ?_, hbel⟩
            by_cases e : j = k
            · subst e; rw [← HX.out]; exact he
            · exact hno.out j hj (by omega)
          case measure => simp [intOf]; omega
      · obtain rfl : k = l.length := by omega
        have hf : fndI l s = -1 := fndI_none l s (fun j hj => hno.out j hj hj)
        go_wp2
        go_ret
        exact ⟨by rw [hf]; rfl, hbel⟩
/-- Each block that is no block of the reference's ledger is as it was. -/
def notRn : Obj → Prop
  | .cells _ t _ => t ≠ 51 ∧ t ≠ 34
  | _ => True
def KeptR (w w' : World) : Prop := ∀ (k : Nat) (o : Obj), w.heap[k]? = some o → notRn o → w'.heap[k]? = some o
theorem KeptR.trans {a b c : World} (h : KeptR a b) (k : KeptR b c) : KeptR a c := fun i o ho hn => k i o (h i o ho hn) hn
theorem keptR_below {w w' : World} (h : Below w.heap.size w w') : KeptR w w' := fun k _ ho _ => (h.block k (lt_of_at ho)).trans ho
theorem keptR_set {w : World} {g i : Nat} {cs : Array Value} {t : TypeId} {f : Nat × Nat} (hg : w.heap[g]? = some (.cells cs t f)) (ht : t = 51 ∨ t = 34) (u : Value) : KeptR w (w.setCell ⟨g, i, none⟩ u) := fun k o ho hn => by
  rw [heap_setCell_other w ⟨g, i, none⟩ k u (fun e => by
    have e : k = g := e
    subst e
    rw [hg] at ho
    cases ho
    rcases ht with rfl | rfl
    · exact hn.1 rfl
    · exact hn.2 rfl)]
  exact ho
/-- What the reference's calls leave. -/
def RnPost (B : Nat) (w w' : World) (R : Nat) (l : List Nd) : Prop := (∃ v, RefN B w' R v l) ∧ Below B w w' ∧ KeptR w w'
theorem RnPost.same {B R : Nat} {w w' : World} {v : Value} {l : List Nd} (h : RefN B w R v l) (hB : B ≤ w.heap.size) (hb : Below w.heap.size w w') : RnPost B w w' R l := ⟨⟨v, h.below hb⟩, hb.mono hB, keptR_below hb⟩
/-- Behind a store of one cell into the row. -/
theorem rn_set {B R g cap j c : Nat} {w : World} {l : List Nd} (h : RefN B w R (.slice (some ⟨g, 0, none⟩) l.length cap) l) (hgR : g ≠ R) (hj : j < l.length) (hc : c < 8) (x : Nd) (u : Value) (hset : cellsN x = (cellsN l[j]).set c u) :
    RefN B (w.setCell ⟨g, j * 8 + c, none⟩ u) R (.slice (some ⟨g, 0, none⟩) (l.set j x).length cap) (l.set j x) ∧ KeptR w (w.setCell ⟨g, j * 8 + c, none⟩ u) ∧ Below B w (w.setCell ⟨g, j * 8 + c, none⟩ u) := by
  obtain ⟨h0, h1, h2⟩ := h
  have hst := (h2.stored (j * 8 + c) u)
  have hg := h2.lt g rfl
  have hu : (cellsN x)[c]? = some u := by rw [hset, List.getElem?_set_self (by simp [cellsN]; omega)]
  have hx : ∀ c', c' < 8 → c' ≠ c → (cellsN x)[c']? = (cellsN l[j])[c']? := fun c' _ hne => by rw [hset, List.getElem?_set_ne (Ne.symm hne)]
  obtain ⟨-, ⟨h3, -⟩ | ⟨g', cap', cur, h3, -, hh, -⟩⟩ := h2
  · cases h3
  · cases h3
    rw [List.length_set]
    refine ⟨⟨h0, ?_, ?_⟩, keptR_set hh (.inr rfl) u, below_grown hst.2 (Nat.le_of_lt (Nat.lt_of_le_of_lt hg.1 hg.2)) (fun k e => by cases e; exact hg.1)⟩
    · rw [heap_setCell_other w ⟨g, j * 8 + c, none⟩ R u (fun e => hgR e.symm)]; exact h1
    · rw [List.length_set, ← flatN_set l j hj x c hc u hu hx]
      exact hst.1
theorem rn_slice {B R : Nat} {w : World} {v : Value} {l : List Nd} (h : RefN B w R v l) : ∃ A cap, v = .slice A l.length cap := rowN_slice h.2.2
theorem gt_lt {a b : ByteArray} (h : (!(Op.bytesLess a.toList b.toList || a.toList == b.toList)) = true) : ltS b a = true := by
  simp only [Bool.not_eq_true', Bool.or_eq_false_iff] at h
  cases k : ltS b a with
  | true => rfl
  | false =>
    have := ltS_tri h.1 k
    subst this
    simp at h
theorem fndI_fnd : ∀ (l : List Nd) (s : ByteArray), (fndI l s = -1 ∧ fnd l (ky s) = none) ∨ ∃ k, ∃ h : k < l.length, fndI l s = k ∧ fnd l (ky s) = some l[k] ∧ l[k].name = s
  | [], s => .inl ⟨rfl, rfl⟩
  | x :: l, s => by
    unfold fndI
    rw [fnd_cons]
    by_cases e : x.name = s
    · rw [if_pos e, if_pos (by rw [e])]
      exact .inr ⟨0, by simp, rfl, rfl, e⟩
    · rw [if_neg e, if_neg (fun e' => e (Go.WideShapes.bytes_inj e'))]
      rcases fndI_fnd l s with ⟨h1, h2⟩ | ⟨k, hk, h1, h2, h3⟩
      · rw [h1]; exact .inl ⟨rfl, h2⟩
      · rw [h1, if_neg (by omega)]
        exact .inr ⟨k + 1, by simpa using hk, rfl, by simpa using h2, by simpa using h3⟩
theorem put_set : ∀ {l : List Nd} (_ : Rising l) {k : Nat} (hk : k < l.length) (x : Nd) (_ : l[k].name = x.name), putN l x = l.set k x
  | [], _, k, hk, _, _ => by simp at hk
  | y :: l, hr, 0, _, x, e => by
    unfold putN
    rw [if_pos (by simpa using e)]
    rfl
  | y :: l, hr, k + 1, hk, x, e => by
    have hk' : k < l.length := by simpa using hk
    have h1 : ltS y.name x.name = true := by
      have := (List.pairwise_cons.1 hr).1 l[k] (List.getElem_mem _)
      rw [show l[k].name = x.name by simpa using e] at this
      exact this
    unfold putN
    rw [if_neg (fun e2 => by rw [e2, ltS_irr] at h1; cases h1), if_neg (fun h2 => by have := ltS_tr h1 h2; rw [ltS_irr] at this; cases this)]
    rw [put_set (List.pairwise_cons.1 hr).2 hk' x (by simpa using e)]
    rfl
/-- Where all behind place k are greater, and the one ahead of it is not. -/
theorem put_take : ∀ {l : List Nd} (_ : Rising l) (x : Nd) (_ : ∀ y ∈ l, y.name ≠ x.name) (k : Nat) (_ : k ≤ l.length) (_ : ∀ y ∈ l.drop k, ltS x.name y.name = true) (_ : ∀ j, (hj : j < l.length) → j + 1 = k → ltS x.name l[j].name = false), l.take k ++ x :: l.drop k = putN l x
  | [], _, x, _, k, hk, _, _ => by
    have : k = 0 := by simpa using hk
    subst this
    rfl
  | y :: l, hr, x, hn, 0, _, hg, _ => by
    have := hg y (by simp)
    unfold putN
    rw [if_neg (hn y (by simp)), if_pos this]
    rfl
  | y :: l, hr, x, hn, k + 1, hk, hg, hl => by
    have hk' : k ≤ l.length := by simpa using hk
    have hyx : ltS x.name y.name = false := by
      cases h : ltS x.name y.name with
      | false => rfl
      | true =>
        have h2 := hl k (by simp only [List.length_cons]; omega) rfl
        cases k with
        | zero => simp only [List.getElem_cons_zero] at h2; rw [h] at h2; cases h2
        | succ k =>
          simp only [List.getElem_cons_succ] at h2
          have := ltS_tr h ((List.pairwise_cons.1 hr).1 l[k] (List.getElem_mem _))
          rw [this] at h2; cases h2
    have ih := put_take (List.pairwise_cons.1 hr).2 x (fun z hz => hn z (by simp [hz])) k hk' (by simpa using hg) (fun j hj e => by have := hl (j + 1) (by simpa using hj) (by omega); simpa using this)
    unfold putN
    rw [if_neg (hn y (by simp)), hyx, if_neg (by simp), ← ih]
    rfl
end Go.Proofs.Ytkplhobiciddoaa
