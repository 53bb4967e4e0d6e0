/- Chapter 20: the reader's command of any Kind; sizes of what is parsed. -/
import Derived.Test.YtidcbcljeofooaaGreatDoorOrWa
import Derived.Test.YtidcbcljeofooaaGreatDoorOrW2
import Derived.Test.YtidcbcljeofooaaGreatDoorOrWc
import Derived.Test.YtidcbcljeofooaaGreatDoorOrX
import Derived.Test.YtidcbcljeofooaaGreatDoorOrF
import Derived.Test.YtidcbcljeofooaaGreatDoorOrMb
import Derived.Test.YtidcbcljeofooaaGreatDoorTab
namespace Go.Proofs.YtidcbcljeofooaaGreatDoor
open Go.RowKit Go.Lib
theorem command_any {w : World} {R b off n cap : Nat} {ws : List ByteArray} (bad : Bool) (hR : w.heap[R]? = some (.cells #[.bool bad] 63 (0, 0))) (hW : Wds w R b off n ws) (hk : kindP ws ≠ 0) (hn2 : n ≤ 100000) (hcap : n ≤ cap) :
    Calls Tryz.prog 25 #[.pointer (some ⟨R, 0, none⟩), .int .i64 (kindP ws), .slice (some ⟨b, off, none⟩) n cap] w (ComQ R bad (kindP ws) ws w) := by
  obtain ⟨k, hkk⟩ : ∃ k, k = kindP ws := ⟨_, rfl⟩
  rw [← hkk] at hk ⊢
  obtain ⟨a, t, hw, h1, h2, h3⟩ := kind_ws hkk.symm hk
  have hl := hW.len
  rcases cntP_word h1 h2 with ⟨rfl, e, q⟩ | ⟨rfl, e, q⟩ | ⟨rfl, e, q⟩ | ⟨rfl, e, q⟩ | ⟨rfl, e, q⟩ | ⟨rfl, e, q⟩ | ⟨rfl, e, q⟩ | ⟨rfl, e, q⟩ | ⟨rfl, e, q⟩ | ⟨rfl, e, q⟩ <;> rw [q] at h3
  · exact command_1 bad hR hW (by omega)
  · exact command_5 bad hR hW (by omega)
  · exact command_2 bad hR hW (by omega) hn2 hcap
  · exact command_3 bad hR hW (by omega)
  · exact command_4 bad hR hW (by omega)
  · exact command_6 bad hR hW (by omega)
  · exact command_7 bad hR hW (by omega)
  · exact command_8 bad hR hW (by omega)
  · exact command_9 bad hR hW (by omega)
  · exact command_10 bad hR hW (by omega)
theorem wd_small {ws : List ByteArray} {N : Nat} (h : ∀ x ∈ ws, x.size ≤ N) (i : Nat) : (wd ws i).size ≤ N := by
  unfold wd
  rw [List.getD_eq_getElem?_getD]
  by_cases hi : i < ws.length
  · rw [List.getElem?_eq_getElem hi]; exact h _ (List.getElem_mem hi)
  · rw [List.getElem?_eq_none (by omega)]; exact Nat.zero_le _
theorem lst_len {l : List UInt8} {zs : List Int} (h : lstP l = some zs) : zs.length ≤ l.length + 1 := by
  unfold lstP at h
  split at h
  · injection h with h; subst h; simp
  · cases hm : allP numP (spl 44 l) with
    | none => rw [hm] at h; cases h
    | some m =>
      rw [hm] at h
      injection h with h
      subst h
      have h1 := ded_len (m.map fun n : Nat => (n : Int))
      rw [List.length_map, allP_len hm] at h1
      have h2 : (spl 44 l).length ≤ l.length + 1 := splG_len 44 l []
      omega
/-- What is parsed is small. -/
structure CmS (c : Cm) (N : Nat) : Prop where
  tn : c.tn.size ≤ N
  ten : c.job.ten.size ≤ N
  node : c.node.size ≤ N
  par : c.job.par.length ≤ N + 1
  tsk : c.job.tsk.length ≤ N + 1
  nod : c.job.nod = []
  don : c.job.don = []
theorem cms_zero (N : Nat) : CmS cm0 N := ⟨Nat.zero_le _, Nat.zero_le _, Nat.zero_le _, Nat.zero_le _, Nat.zero_le _, rfl, rfl⟩
theorem cmd_small {ws : List ByteArray} {N k : Nat} {c : Cm} (h : ∀ x ∈ ws, x.size ≤ N) (hl : ws.length ≤ N + 1) (hc : cmdP k ws = some c) : CmS c N := by
  have W := wd_small h
  have Z := cms_zero N
  unfold cmdP at hc
  split at hc
  · split at hc
    · injection hc with hc; subst hc; exact ⟨W 1, Z.2, Z.3, Z.4, Z.5, rfl, rfl⟩
    · cases hc
  · split at hc
    · split at hc
      · rename_i j hj
        injection hc with hc
        subst hc
        unfold jobP at hj
        split at hj
        · rename_i l m q1 q2 q3 q4 q5
          injection hj with hj
          subst hj
          have e1 := lst_len q4
          have e2 := W 5
          have e3 : (wl ws 5).length = (wd ws 5).size := by simp
          have e4 := allP_len q5
          rw [List.length_map, List.length_drop] at e4
          refine ⟨Z.1, W 2, Z.3, ?_, ?_, rfl, rfl⟩
          · show List.length l ≤ N + 1; omega
          · show (List.map vI m).length ≤ _; rw [List.length_map]; omega
        · cases hj
      · cases hc
    · split at hc
      · split at hc
        · injection hc with hc; subst hc; exact ⟨Z.1, Z.2, Z.3, Z.4, Z.5, rfl, rfl⟩
        · cases hc
      · split at hc
        · split at hc
          · injection hc with hc; subst hc; exact ⟨Z.1, Z.2, W 1, Z.4, Z.5, rfl, rfl⟩
          · cases hc
        · split at hc
          · split at hc
            · injection hc with hc; subst hc; exact ⟨Z.1, Z.2, W 1, Z.4, Z.5, rfl, rfl⟩
            · cases hc
          · split at hc
            · split at hc
              · injection hc with hc; subst hc; exact ⟨Z.1, Z.2, W 1, Z.4, Z.5, rfl, rfl⟩
              · cases hc
            · injection hc with hc; subst hc; exact ⟨Z.1, Z.2, Z.3, Z.4, Z.5, rfl, rfl⟩
theorem cost_mem {ws : List ByteArray} {x : ByteArray} (h : x ∈ ws) : x.size + 1 ≤ cost ws := by
  induction ws with
  | nil => cases h
  | cons a t ih =>
    rw [cost_cons]
    rw [List.mem_cons] at h
    rcases h with rfl | h
    · omega
    · have := ih h; omega
theorem cost_len (ws : List ByteArray) : ws.length ≤ cost ws := by
  induction ws with
  | nil => exact Nat.zero_le _
  | cons a t ih => rw [cost_cons, List.length_cons]; omega
/-- The words of a text are no longer than it. -/
theorem words_cost {s : ByteArray} (h : (wres s).2.2 = 0) : cost (wres s).1 ≤ s.size + 1 := by
  have hchk : (chkA s 0 0).2.2 = 0 := by
    rcases Classical.em ((chkA s 0 0).2.2 = 0) with q | q
    · exact q
    · rw [wres_chk q] at h; exact h
  cases hcw : cutW s with
  | none => have := (wres_cut hchk).2 hcw; rw [h] at this; cases this
  | some r =>
    rw [(wres_cut hchk).1 r hcw]
    have h4 := bw_cost _ _ _ _ _ hcw
    have hl : s.data.toList.length = s.size := by simp
    have e0 : cost [] = 0 := rfl
    simp only [List.length_nil] at h4
    show cost r ≤ _
    omega
theorem line_small (s : ByteArray) : CmS (lineP s).1 512 := by
  unfold lineP
  split
  · exact cms_zero _
  · rename_i h1
    split
    · exact cms_zero _
    · rename_i h2
      have h2' : (wres s).2.2 = 0 := Classical.not_not.1 h2
      have hc := words_cost h2'
      split
      · exact cms_zero _
      · split
        · exact cms_zero _
        · rename_i c e
          split
          · have := cost_len (wres s).1
            exact cmd_small (fun x hx => by have := cost_mem hx; omega) (by omega) e
          · exact cms_zero _
theorem cml_of {w : World} {c : Cm} {sl : Sls} (h : CmS c 512) (hs : Sl4 w c.job sl) : CmL w c sl := by
  obtain ⟨h1, h2, h3, h4, h5, h6, h7⟩ := h
  refine ⟨⟨by omega, by omega, by rw [h6]; exact Nat.zero_le _, by rw [h7]; exact Nat.zero_le _⟩, hs, ?_, ?_, ?_⟩ <;> (unfold maxLen; omega)
/-- Words as a row, as the reader takes them. -/
theorem wds_of {w w' : World} {B R : Nat} {v : Value} {ws : List ByteArray} (h : w.ownsRow B 9 1 v ws.length (flatS ws)) (h0 : ws ≠ []) (hsm : ∀ x ∈ ws, x.size ≤ 100000) (hb : Below w.heap.size w w') (hR : w.heap.size ≤ R) :
    ∃ b cap, v = .slice (some ⟨b, 0, none⟩) ws.length cap ∧ ws.length ≤ cap ∧ Wds w' R b 0 ws.length ws := by
  obtain ⟨h1, ⟨-, q⟩ | ⟨g, cap, cur, rfl, hg, hh, hc, -, hs, ht⟩⟩ := h
  · exact absurd (List.eq_nil_of_length_eq_zero q) h0
  · refine ⟨g, cap, rfl, hc, rfl, Nat.lt_of_lt_of_le (lt_of_at hh) hb.size, by have := lt_of_at hh; omega, fun i x hx => ?_, hsm⟩
    have hi := (List.getElem?_eq_some_iff.1 hx).1
    have h5 : (flatS ws)[i]? = some (.string x) := by unfold flatS; rw [List.getElem?_map, hx]; rfl
    rw [← ht, List.getElem?_take] at h5
    rw [Nat.zero_add, hb.cell (p := ⟨g, i, none⟩) (lt_of_at hh), blk_cell hh, ← Array.getElem?_toList]
    split at h5
    · exact h5
    · cases h5
theorem below_rdr {w X Y : World} {R : Nat} {b : Bool} (h : Below w.heap.size w X) (hr : Rdr R b X Y) (hR : w.heap.size ≤ R) : Below w.heap.size w Y :=
  ⟨hr.2.os.trans h.os, hr.2.tape.trans h.tape, hr.2.output.trans h.output, Nat.le_trans h.size hr.size, fun k hk => (hr.2.block k (Nat.lt_of_lt_of_le hk h.size) (fun e => by injection e with e; omega)).trans (h.block k hk)⟩
theorem below_alloc' {B : Nat} {W w : World} (h : Below B W w) (o : Obj) (hB : B ≤ W.heap.size := by exact Nat.le_refl _) : Below B W (w.alloc o) := h.alloc (Nat.le_trans hB h.size) o
theorem line_long {s : ByteArray} (h : 512 < s.size) : lineP s = (cm0, 1) := by unfold lineP; rw [if_pos h]
theorem line_words {s : ByteArray} (h : ¬ 512 < s.size) (h2 : (wres s).2.2 ≠ 0) : lineP s = (cm0, (wres s).2.2) := by unfold lineP; rw [if_neg h, if_pos h2]
theorem line_kind {s : ByteArray} (h : ¬ 512 < s.size) (h2 : (wres s).2.2 = 0) (h3 : kindP (wres s).1 = 0) : lineP s = (cm0, 13) := by unfold lineP; rw [if_neg h, if_neg (by rw [h2]; simp), if_pos h3]
theorem line_bad {s : ByteArray} (h : ¬ 512 < s.size) (h2 : (wres s).2.2 = 0) (h3 : kindP (wres s).1 ≠ 0) (h4 : cmdP (kindP (wres s).1) (wres s).1 = none) : lineP s = (cm0, 12) := by unfold lineP; rw [if_neg h, if_neg (by rw [h2]; simp), if_neg h3, h4]
theorem line_form {s : ByteArray} (h : ¬ 512 < s.size) (h2 : (wres s).2.2 = 0) (h3 : kindP (wres s).1 ≠ 0) {c : Cm} (h4 : cmdP (kindP (wres s).1) (wres s).1 = some c) : lineP s = if formB c then (c, 0) else (cm0, 4) := by unfold lineP; rw [if_neg h, if_neg (by rw [h2]; simp), if_neg h3, h4]
theorem kind_no {a : ByteArray} {t : List ByteArray} (h : (cntP a.data.toList).1 = 0 ∨ (t.length + 1 ≠ (cntP a.data.toList).1 ∧ ((cntP a.data.toList).2 ≠ 2 ∨ ¬ (cntP a.data.toList).1 < t.length + 1))) : kindP (a :: t) = 0 := by
  unfold kindP
  simp only [List.length_cons]
  rw [if_neg]
  rintro ⟨h1, h2⟩
  rcases h with h | ⟨h3, h4⟩
  · exact h1 h
  · rcases h2 with h2 | ⟨h5, h6⟩
    · exact h3 h2
    · rcases h4 with h4 | h4
      · exact h4 h5
      · exact h4 h6
theorem kind_yes {a : ByteArray} {t : List ByteArray} (h0 : (cntP a.data.toList).1 ≠ 0) (h : t.length + 1 = (cntP a.data.toList).1 ∨ ((cntP a.data.toList).2 = 2 ∧ (cntP a.data.toList).1 < t.length + 1)) : kindP (a :: t) = (cntP a.data.toList).2 := by
  unfold kindP
  simp only [List.length_cons]
  rw [if_pos ⟨h0, h⟩]
theorem cnt_pos {a : List UInt8} (h : (cntP a).1 ≠ 0) : (cntP a).2 ≠ 0 := by
  rcases cntP_word rfl h with ⟨e, -⟩ | ⟨e, -⟩ | ⟨e, -⟩ | ⟨e, -⟩ | ⟨e, -⟩ | ⟨e, -⟩ | ⟨e, -⟩ | ⟨e, -⟩ | ⟨e, -⟩ | ⟨e, -⟩ <;> omega
end Go.Proofs.YtidcbcljeofooaaGreatDoor
