/- Chapter 14's queue: its calls, as the laws see them: the list alone is told. -/
import Derived.Test.YtingeijodooocaaQuD
namespace Go.Proofs.Ytingeijodooocaa
open Go.RowKit
def wtZ : Wt := ⟨0, ByteArray.empty, 0⟩
/-- Pure answers. -/
def fndQ (L : List Wt) (j : Int) : Option Wt := L.find? fun x => decide (x.job = j)
def okR (v : Wt) : Bool := decide (1 ≤ v.job ∧ v.job ≤ 100 ∧ 0 ≤ v.pri ∧ v.pri ≤ 100)
def errQ (L : List Wt) (v : Wt) : Int := if okR v = true then (if (fndQ L v.job).isSome then 5 else 0) else 2
def pushQ (L : List Wt) (v : Wt) : List Wt := if errQ L v = 0 then insQ v L else L
def got (o : Option Wt) : Wt := o.getD wtZ
def gotE (o : Option Wt) : Int := if o.isSome then 0 else 3
def remE (L : List Wt) (j : Int) : Int := gotE (fndQ L j)
theorem fnd_some {L : List Wt} {j : Int} {v : Wt} (h : fndQ L j = some v) : v ∈ L ∧ v.job = j := by
  unfold fndQ at h
  exact ⟨List.mem_of_find?_eq_some h, by simpa using List.find?_some h⟩
theorem fnd_none {L : List Wt} {j : Int} : fndQ L j = none ↔ ∀ x ∈ L, x.job ≠ j := by
  unfold fndQ
  rw [List.find?_eq_none]
  simp
theorem SrtQ.fnd {L : List Wt} (h : SrtQ L) {v : Wt} (hv : v ∈ L) : fndQ L v.job = some v := by
  cases e : fndQ L v.job with
  | none => exact absurd rfl (fnd_none.1 e v hv)
  | some u =>
    obtain ⟨h1, h2⟩ := fnd_some e
    rw [h.eq h1 hv h2]
variable {B q nA nH c : Nat} {w w' : World} {m : Option (Nat × Nat)} {A : WMap} {Hm : HMap} {D : List UInt8 → Hd} {L : List Wt} {F : Nat → Prop}
theorem QuV.fnd (h : QuV B w q m nA A nH Hm D L c) (j : Int) : fndQ L j = (A j).map (·.1) := by
  cases e : A j with
  | none =>
    rw [Option.map_none, fnd_none]
    intro x hx e2
    obtain ⟨y, hy⟩ := (h.mem x).1 hx
    rw [e2, e] at hy
    cases hy
  | some p =>
    obtain ⟨v, x⟩ := p
    have hj := (h.job j v x e).1
    rw [Option.map_some, ← hj]
    exact h.srt.fnd ((h.mem v).2 ⟨x, by rw [hj]; exact e⟩)
/-- The queue: its list L, at most c pushes, its blocks F. -/
def QB (B : Nat) (w : World) (q : Nat) (L : List Wt) (c : Nat) (F : Nat → Prop) : Prop :=
  ∃ m nA A nH Hm D, QuV B w q m nA A nH Hm D L c ∧ F = FootQ q m Hm D ∧ L.length ≤ c
theorem QB.kept (h : QB B w q L c F) (e : ∀ k, F k → w'.heap[k]? = w.heap[k]?) : QB B w' q L c F := by
  obtain ⟨m, nA, A, nH, Hm, D, hv, rfl, hl⟩ := h
  exact ⟨m, nA, A, nH, Hm, D, hv.kept e, rfl, hl⟩
theorem QB.foot (h : QB B w q L c F) {k : Nat} (hk : F k) : B ≤ k ∧ k < w.heap.size := by
  obtain ⟨m, nA, A, nH, Hm, D, hv, rfl, -⟩ := h
  exact hv.foot hk
theorem QB.below (h : QB B w q L c F) (hb : Below w.heap.size w w') : QB B w' q L c F := h.kept fun _ hk => hb.block _ (h.foot hk).2
theorem QB.srt (h : QB B w q L c F) : SrtQ L := by
  obtain ⟨m, nA, A, nH, Hm, D, hv, -⟩ := h
  exact hv.srt
theorem QB.job (h : QB B w q L c F) {v : Wt} (hv : v ∈ L) : 1 ≤ v.job ∧ v.job ≤ 100 ∧ 0 ≤ v.pri ∧ v.pri ≤ 100 ∧ v.ten.size ≤ maxLen := by
  obtain ⟨m, nA, A, nH, Hm, D, h, -⟩ := h
  obtain ⟨x, hx⟩ := (h.mem v).1 hv
  have := h.job _ _ _ hx
  omega
theorem QB.len (h : QB B w q L c F) : L.length ≤ c ∧ c ≤ 1000 := by
  obtain ⟨m, nA, A, nH, Hm, D, h, -, hl⟩ := h
  exact ⟨hl, h.cnt.2⟩
theorem QuV.more {c' : Nat} (h : QuV B w q m nA A nH Hm D L c) (hc : c ≤ c') (hc2 : c' ≤ 1000) : QuV B w q m nA A nH Hm D L c' :=
  { h with
    hp := fun t b e => by obtain ⟨a1, a2, a3, a4, a5, a6⟩ := h.hp t b e; exact ⟨a1, a2, a3, a4, a5, Nat.le_trans a6 hc⟩
    cnt := ⟨Nat.le_trans h.cnt.1 hc, hc2⟩ }
/-- What a writing call leaves. -/
def QN (B : Nat) (w w' : World) (q : Nat) (L : List Wt) (c : Nat) (F : Nat → Prop) : Prop :=
  ∃ F', QB B w' q L c F' ∧ Tur F w w' ∧ ∀ k, F' k → F k ∨ w.heap.size ≤ k
theorem QN.below (h : QB B w q L c F) (hb : Below w.heap.size w w') : QN B w w' q L c F := ⟨F, h.below hb, Tur.of_below hb, fun _ h => .inl h⟩
theorem qb_new (B : Nat) (w : World) (hB : B ≤ w.heap.size) :
    Calls Try.prog 9 #[] w fun e w' => e = .returned (.pointer (some ⟨w.heap.size, 0, none⟩)) ∧ QN B w w' w.heap.size [] 0 (fun _ => False) := by
  refine (qnew_g B w hB (fun _ => ⟨0, .slice none 0 0, .slice none 0 0, .slice none 0 0, mm0⟩)).mono ?_
  rintro e w' ⟨rfl, h, hb⟩
  refine ⟨rfl, _, ⟨_, _, _, _, _, _, h, rfl, Nat.le_refl _⟩, Tur.of_below hb, fun k hk => ?_⟩
  rcases hk with (hk | ⟨x, y, e, -⟩) | ⟨t, b, e, -⟩
  · exact .inr (Nat.le_of_eq hk.symm)
  · cases e
  · cases e
theorem qb_push (h : QB B w q L c F) {v : Wt} (hs : v.ten.size ≤ maxLen) (hc : c + 1 ≤ 1000) (hB : B ≤ w.heap.size) :
    Calls Try.prog 10 #[.pointer (some ⟨q, 0, none⟩), wtV v] w fun e w' => e = .returned (.int .i64 (errQ L v)) ∧ QN B w w' q (pushQ L v) (c + 1) F := by
  have h0 := h
  obtain ⟨m, nA, A, nH, Hm, D, hq, rfl, hl⟩ := h
  have hmore : ∀ w', Below w.heap.size w w' → QN B w w' q L (c + 1) (FootQ q m Hm D) := fun w' hb => ⟨_, ⟨_, _, _, _, _, _, (hq.below hb).more (Nat.le_succ c) hc, rfl, Nat.le_succ_of_le hl⟩, Tur.of_below hb, fun _ h => .inl h⟩
  have hf := hq.fnd v.job
  unfold pushQ errQ
  by_cases hr : 1 ≤ v.job ∧ v.job ≤ 100 ∧ 0 ≤ v.pri ∧ v.pri ≤ 100
  · rw [if_pos (show okR v = true by unfold okR; exact decide_eq_true hr)]
    cases hA : A v.job with
    | none =>
      rw [hA, Option.map_none] at hf
      rw [hf]
      simp only [Option.isSome_none, Bool.false_eq_true, if_false, if_true]
      refine (qpush_ok hq hA ⟨hr.1, hr.2.1, hr.2.2.1, hr.2.2.2, hs⟩ hc hB (by have := hq.len; omega)).mono ?_
      rintro e w' ⟨rfl, m', nA', A', nH', Hm', D', h1, h2, h3⟩
      exact ⟨rfl, _, ⟨m', nA', A', nH', Hm', D', h1, rfl, by rw [(insQ_perm v L).length_eq, List.length_cons]; omega⟩, h2, h3⟩
    | some x =>
      rw [hA, Option.map_some] at hf
      rw [hf]
      simp only [Option.isSome_some, if_true]
      refine (qpush_twice hq.r v hr hA).mono ?_
      rintro e w' ⟨rfl, hb⟩
      refine ⟨rfl, ?_⟩
      rw [if_neg (by decide)]
      exact hmore w' hb
  · rw [if_neg (show ¬ okR v = true by unfold okR; rw [decide_eq_true_eq]; exact hr)]
    refine (qpush_range q v w hr).mono ?_
    rintro e w' ⟨rfl, hb⟩
    refine ⟨rfl, ?_⟩
    rw [if_neg (by decide)]
    exact hmore w' hb
theorem qb_rem (h : QB B w q L c F) (j : Int) (hj : (Lit.int .i64 j).wf = true) :
    Calls Try.prog 17 #[.pointer (some ⟨q, 0, none⟩), .int .i64 j] w fun e w' => e = .returned (.int .i64 (remE L j)) ∧ QN B w w' q (delQ j L) c F := by
  have h0 := h
  obtain ⟨m, nA, A, nH, Hm, D, hq, rfl, hl⟩ := h
  have hf := hq.fnd j
  unfold remE gotE
  cases hA : A j with
  | none =>
    rw [hA, Option.map_none] at hf
    rw [hf, del_no (fnd_none.1 hf)]
    simp only [Option.isSome_none, Bool.false_eq_true, if_false]
    refine (qrem_no hq.r j hj hA).mono ?_
    rintro e w' ⟨rfl, hb⟩
    exact ⟨rfl, QN.below h0 hb⟩
  | some x =>
    obtain ⟨v, x⟩ := x
    rw [hA, Option.map_some] at hf
    rw [hf]
    simp only [Option.isSome_some, if_true]
    have hvj := (hq.job j v x hA).1
    subst hvj
    refine (qrem_ok hq hA).mono ?_
    rintro e w' ⟨rfl, m', nA', A', nH', Hm', D', h1, h2, h3⟩
    exact ⟨rfl, _, ⟨m', nA', A', nH', Hm', D', h1, rfl, Nat.le_trans (List.length_filter_le _ _) hl⟩, h2, h3⟩
theorem qb_get (h : QB B w q L c F) (j : Int) (hj : (Lit.int .i64 j).wf = true) :
    Calls Try.prog 16 #[.pointer (some ⟨q, 0, none⟩), .int .i64 j] w fun e w' => e = .returned (.tuple #[wtV (got (fndQ L j)), .int .i64 (gotE (fndQ L j))]) ∧ Below w.heap.size w w' := by
  obtain ⟨m, nA, A, nH, Hm, D, hq, rfl, hl⟩ := h
  have hf := hq.fnd j
  refine (qget_g hq.r j hj).mono ?_
  rintro e w' ⟨rfl, hb⟩
  refine ⟨?_, hb⟩
  rw [hf]
  cases A j <;> rfl
theorem qb_head (h : QB B w q L c F) {s : ByteArray} (hs : s.size ≤ maxLen) :
    Calls Try.prog 13 #[.pointer (some ⟨q, 0, none⟩), .string s] w fun e w' => e = .returned (.tuple #[wtV (got (lsQ s.data.toList L).head?), .int .i64 (gotE (lsQ s.data.toList L).head?)]) ∧ Below w.heap.size w w' := by
  obtain ⟨m, nA, A, nH, Hm, D, hq, rfl, hl⟩ := h
  cases hK : Hm s.data.toList with
  | none =>
    have e : lsQ s.data.toList L = [] := by
      unfold lsQ
      rw [List.filter_eq_nil_iff]
      intro x hx e
      obtain ⟨b, hb⟩ := (hq.has s.data.toList).2 ⟨x, hx, by simpa using e⟩
      rw [hK] at hb
      cases hb
    rw [e]
    exact qhead_no hq hs hK
  | some b =>
    obtain ⟨v, -, -, -, hh, -⟩ := hq.first hK
    rw [hh]
    exact qhead_yes hq hs hK hh
theorem qb_list (h : QB B w q L c F) (s : ByteArray) :
    Calls Try.prog 14 #[.pointer (some ⟨q, 0, none⟩), .string s] w fun e w' => ∃ v, e = .returned v ∧ w'.ownsRow w.heap.size 29 3 v (lsQ s.data.toList L).length (flatR 3 fW (lsQ s.data.toList L)) ∧ Below w.heap.size w w' := by
  have hc := h.len
  obtain ⟨m, nA, A, nH, Hm, D, hq, rfl, hl⟩ := h
  exact qlist_g hq (by omega) s
theorem qb_tens (h : QB B w q L c F) :
    Calls Try.prog 12 #[.pointer (some ⟨q, 0, none⟩)] w fun e w' => ∃ (v : Value) (ks : List (List UInt8)), e = .returned v ∧ IsTn L ks ∧ w'.ownsRow w.heap.size 9 1 v ks.length (flatR 1 fK ks) ∧ Below w.heap.size w w' := by
  have hc := h.len
  obtain ⟨m, nA, A, nH, Hm, D, hq, rfl, hl⟩ := h
  refine (qtenants_g hq (by omega)).mono ?_
  rintro e w' ⟨v, ks, h1, h2, h3, h4⟩
  exact ⟨v, ks, h1, h2, by rw [flat_S]; exact h3, h4⟩
theorem qb_top (h : QB B w q L c F) :
    Calls Try.prog 11 #[.pointer (some ⟨q, 0, none⟩)] w fun e w' => ∃ (v : Value) (ks : List (List UInt8)), e = .returned (.tuple #[.int .i64 (bestL L), v]) ∧ IsTn L ks ∧ w'.ownsRow w.heap.size 9 1 v (topT L (bestL L) ks).length (flatR 1 fK (topT L (bestL L) ks)) ∧ Below w.heap.size w w' := by
  have hc := h.len
  obtain ⟨m, nA, A, nH, Hm, D, hq, rfl, hl⟩ := h
  exact qtop_g hq (by omega)
theorem qb_len (h : QB B w q L c F) : Calls Try.prog 15 #[.pointer (some ⟨q, 0, none⟩)] w fun e w' => e = .returned (.int .i64 L.length) ∧ w = w' := by
  obtain ⟨m, nA, A, nH, Hm, D, hq, rfl, hl⟩ := h
  rw [← hq.len]
  exact qlen_g hq.r
end Go.Proofs.Ytingeijodooocaa
