/- Chapter 14's queue, behind a law's start. -/
import Derived.Test.YtingeijodooocaaQuO
namespace Go.Proofs.Ytingeijodooocaa
open Go.RowKit
/-- The queue at q, all of it made since the world w0. -/
structure QS (w0 w : World) (q : Nat) (L : List Wt) (c : Nat) : Prop where
  ex : ∃ F, QB w0.heap.size w q L c F
  bel : Below w0.heap.size w0 w
variable {w0 w w' : World} {q c : Nat} {L : List Wt} {F : Nat → Prop}
theorem QS.below (h : QS w0 w q L c) (hb : Below w.heap.size w w') : QS w0 w' q L c := by
  obtain ⟨⟨F, h1⟩, h2⟩ := h
  exact ⟨⟨F, h1.below hb⟩, h2.trans (hb.mono h2.size)⟩
theorem QS.next (h : QB w0.heap.size w q L c F) (h2 : Below w0.heap.size w0 w) {L' : List Wt} {c' : Nat} (hn : QN w0.heap.size w w' q L' c' F) : QS w0 w' q L' c' := by
  obtain ⟨F', q1, q2, -⟩ := hn
  exact ⟨⟨F', q1⟩, h2.trans (q2.below h2.size fun k hk => (h.foot hk).1)⟩
theorem QS.srt (h : QS w0 w q L c) : SrtQ L := by obtain ⟨⟨F, h1⟩, -⟩ := h; exact h1.srt
theorem QS.len (h : QS w0 w q L c) : L.length ≤ c ∧ c ≤ 1000 := by obtain ⟨⟨F, h1⟩, -⟩ := h; exact h1.len
theorem QS.job (h : QS w0 w q L c) {v : Wt} (hv : v ∈ L) : 1 ≤ v.job ∧ v.job ≤ 100 ∧ 0 ≤ v.pri ∧ v.pri ≤ 100 ∧ v.ten.size ≤ maxLen := by obtain ⟨⟨F, h1⟩, -⟩ := h; exact h1.job hv
theorem qs_new (h : Below w0.heap.size w0 w) :
    Calls Try.prog 9 #[] w fun e w' => e = .returned (.pointer (some ⟨w.heap.size, 0, none⟩)) ∧ QS w0 w' w.heap.size [] 0 := by
  refine (qb_new w0.heap.size w h.size).mono ?_
  rintro e w' ⟨rfl, F', q1, q2, -⟩
  exact ⟨rfl, ⟨F', q1⟩, h.trans (q2.below h.size fun k hk => hk.elim)⟩
theorem qs_push (h : QS w0 w q L c) {v : Wt} (hs : v.ten.size ≤ maxLen) (hc : c + 1 ≤ 1000) :
    Calls Try.prog 10 #[.pointer (some ⟨q, 0, none⟩), wtV v] w fun e w' => e = .returned (.int .i64 (errQ L v)) ∧ QS w0 w' q (pushQ L v) (c + 1) := by
  obtain ⟨⟨F, h1⟩, h2⟩ := h
  refine (qb_push h1 hs hc h2.size).mono ?_
  rintro e w' ⟨rfl, hn⟩
  exact ⟨rfl, QS.next h1 h2 hn⟩
theorem qs_rem (h : QS w0 w q L c) (j : Int) (hj : (Lit.int .i64 j).wf = true) :
    Calls Try.prog 17 #[.pointer (some ⟨q, 0, none⟩), .int .i64 j] w fun e w' => e = .returned (.int .i64 (remE L j)) ∧ QS w0 w' q (delQ j L) c := by
  obtain ⟨⟨F, h1⟩, h2⟩ := h
  refine (qb_rem h1 j hj).mono ?_
  rintro e w' ⟨rfl, hn⟩
  exact ⟨rfl, QS.next h1 h2 hn⟩
theorem qs_get (h : QS w0 w q L c) (j : Int) (hj : (Lit.int .i64 j).wf = true) :
    Calls Try.prog 16 #[.pointer (some ⟨q, 0, none⟩), .int .i64 j] w fun e w' => e = .returned (.tuple #[wtV (got (fndQ L j)), .int .i64 (gotE (fndQ L j))]) ∧ Below w.heap.size w w' := by
  obtain ⟨⟨F, h1⟩, -⟩ := h
  exact qb_get h1 j hj
theorem qs_head (h : QS w0 w q L c) {s : ByteArray} (hs : s.size ≤ maxLen) :
    Calls Try.prog 13 #[.pointer (some ⟨q, 0, none⟩), .string s] w fun e w' => e = .returned (.tuple #[wtV (got (lsQ s.data.toList L).head?), .int .i64 (gotE (lsQ s.data.toList L).head?)]) ∧ Below w.heap.size w w' := by
  obtain ⟨⟨F, h1⟩, -⟩ := h
  exact qb_head h1 hs
theorem qs_list (h : QS w0 w q L c) (s : ByteArray) :
    Calls Try.prog 14 #[.pointer (some ⟨q, 0, none⟩), .string s] w fun e w' => ∃ v, e = .returned v ∧ w'.ownsRow w.heap.size 29 3 v (lsQ s.data.toList L).length (flatR 3 fW (lsQ s.data.toList L)) ∧ Below w.heap.size w w' := by
  obtain ⟨⟨F, h1⟩, -⟩ := h
  exact qb_list h1 s
theorem qs_tens (h : QS w0 w q L c) :
    Calls Try.prog 12 #[.pointer (some ⟨q, 0, none⟩)] w fun e w' => ∃ (v : Value) (ks : List (List UInt8)), e = .returned v ∧ IsTn L ks ∧ w'.ownsRow w.heap.size 9 1 v ks.length (flatR 1 fK ks) ∧ Below w.heap.size w w' := by
  obtain ⟨⟨F, h1⟩, -⟩ := h
  exact qb_tens h1
theorem qs_top (h : QS w0 w q L c) :
    Calls Try.prog 11 #[.pointer (some ⟨q, 0, none⟩)] w fun e w' => ∃ (v : Value) (ks : List (List UInt8)), e = .returned (.tuple #[.int .i64 (bestL L), v]) ∧ IsTn L ks ∧ w'.ownsRow w.heap.size 9 1 v (topT L (bestL L) ks).length (flatR 1 fK (topT L (bestL L) ks)) ∧ Below w.heap.size w w' := by
  obtain ⟨⟨F, h1⟩, -⟩ := h
  exact qb_top h1
theorem qs_len (h : QS w0 w q L c) : Calls Try.prog 15 #[.pointer (some ⟨q, 0, none⟩)] w fun e w' => e = .returned (.int .i64 L.length) ∧ w = w' := by
  obtain ⟨⟨F, h1⟩, -⟩ := h
  exact qb_len h1
/-- Head of a tenant that waits. -/
theorem QS.heads (h : QS w0 w q L c) {ks : List (List UInt8)} (hk : IsTn L ks) {i : Nat} {k : List UInt8} (hi : ks[i]? = some k) :
    ∃ u : Wt, u ∈ L ∧ hpri L k = u.pri ∧ u.ky = k ∧ (lsQ k L).head? = some u ∧ Calls Try.prog 13 #[.pointer (some ⟨q, 0, none⟩), .string (bsK k)] w fun e w' => e = .returned (.tuple #[.agg #[.int .i64 u.job, .string u.ten, .int .i64 u.pri], .int .i64 0]) ∧ Below w.heap.size w w' := by
  obtain ⟨u, hu, e, hh, hp⟩ := hpri_at ((hk.mem k).1 (List.mem_of_getElem? hi))
  subst e
  refine ⟨u, hu, hp, rfl, hh, ?_⟩
  have := qs_head h (s := bsK u.ky) (by rw [bsK_ky]; exact (h.job hu).2.2.2.2)
  rw [show (bsK u.ky).data.toList = u.ky by simp, hh] at this
  exact this
/-! plain -/
theorem bestL_perm {L M : List Wt} (h : L.Perm M) : bestL L = bestL M :=
  bestL_eq (bestL_ge M) (fun _ hv => bestL_le (h.mem_iff.1 hv)) ((bestL_at M).imp id fun ⟨v, hv, e⟩ => ⟨v, h.mem_iff.2 hv, e⟩)
theorem bestL_cons (v : Wt) (L : List Wt) : bestL (v :: L) = max (bestL L) v.pri := by
  refine bestL_eq (by have := bestL_ge L; omega) (fun u hu => ?_) ?_
  · rcases List.mem_cons.1 hu with e | e
    · rw [e]; omega
    · have := bestL_le e; omega
  · by_cases e : v.pri ≤ bestL L
    · rcases bestL_at L with e2 | ⟨u, hu, e2⟩
      · left; omega
      · exact .inr ⟨u, List.mem_cons_of_mem _ hu, by omega⟩
    · exact .inr ⟨v, List.mem_cons_self, by omega⟩
theorem bestL_push (L : List Wt) (v : Wt) : bestL (pushQ L v) = if errQ L v = 0 then max (bestL L) v.pri else bestL L := by
  unfold pushQ
  split
  · rw [bestL_perm (insQ_perm v L), bestL_cons]
  · rfl
theorem topT_split {L : List Wt} {b : Int} {ts : List (List UInt8)} {i : Nat} {t : List UInt8} (h : ts[i]? = some t) (hb : hpri L t = b) : (topT L b ts)[(topT L b (ts.take i)).length]? = some t := by
  obtain ⟨hi, e⟩ := List.getElem?_eq_some_iff.1 h
  have e2 : ts = ts.take i ++ t :: ts.drop (i + 1) := by
    rw [← e, ← List.drop_eq_getElem_cons hi, List.take_append_drop]
  have e3 : topT L b (ts.take i ++ t :: ts.drop (i + 1)) = topT L b (ts.take i) ++ t :: topT L b (ts.drop (i + 1)) := by
    unfold topT
    rw [List.filter_append, List.filter_cons_of_pos (by simpa using hb)]
  rw [← e2] at e3
  rw [e3, List.getElem?_append_right (Nat.le_refl _), Nat.sub_self]
  rfl
end Go.Proofs.Ytingeijodooocaa
