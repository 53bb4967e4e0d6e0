/- Chapter 1: two equal lists of words are told alike; the walk of RunesWords. -/
import Derived.Test.YtlciijcfhfcbkaaDoorWrR
import Derived.Test.YtlciijcfhfcbkaaDoorRunL
namespace Go.Proofs.YtlciijcfhfcbkaaDoor
open Go.RowKit
theorem rowS_cells {w : World} {B : Nat} {v : Value} {l : List ByteArray} (h : w.ownsRow B 9 1 v l.length (flatS l)) (hl : 0 < l.length) :
    ∃ g cap, v = .slice (some ⟨g, 0, none⟩) l.length cap ∧ g < w.heap.size ∧ ∀ q, q < l.length → w.cell? ⟨g, q, none⟩ = some (.string (l.getD q ⟨#[]⟩)) := by
  obtain ⟨-, ⟨rfl, h0⟩ | ⟨g, cap, cur, rfl, -, hh, -, -, -, ht⟩⟩ := h
  · omega
  · refine ⟨g, cap, rfl, lt_of_at hh, fun q hq => ?_⟩
    rw [blk_cell hh, ← Array.getElem?_toList]
    have e1 := congrArg (·[q]?) ht
    simp only [List.getElem?_take, Nat.mul_one, if_pos hq] at e1
    rw [e1]
    simp [flatS, List.getD, hq]
set_option maxRecDepth 20000 in
set_option maxHeartbeats 4000000 in
theorem same_eq {B B' : Nat} (w : World) (v v' : Value) (l : List ByteArray) (hP : w.ownsRow B 9 1 v l.length (flatS l)) (hR : w.ownsRow B' 9 1 v' l.length (flatS l)) (hm : l.length ≤ 4294967296) :
    Calls Tryd.prog 15 #[v, v'] w fun e w' => e = .returned (.bool true) ∧ Below w.heap.size w w' := by
  obtain ⟨Aw, capw, rfl⟩ := rowS_slice hP
  obtain ⟨Ap, capp, rfl⟩ := rowS_slice hR
  have RW := hid hP
  have RP := hid hR
  have WL : Hid (l.length ≤ 4294967296) := hm
  clear hP hR hm
  go_enter Tryd.func15, Tryd.ntmps15
  go_wp2
  go_loopw [5] (fun i wx => ∃ q : Nat, q ≤ l.length ∧ i = .int .i64 q ∧ Hid (Below w.heap.size w wx)) (fun i _ => l.length - (intOf i).toNat)
  case atStart => exact ⟨0, Nat.zero_le _, rfl, Below.refl _ _⟩
  case round =>
    obtain ⟨q, hq, rfl, hbq⟩ := hrel
    by_cases hql : q < l.length
    · have hqi : (q : Int) < (l.length : Int) := by omega
      have HQ : Hid (q + 1 ≤ l.length) := hql
      obtain ⟨g, cp, hv, hgl, hcell⟩ := rowS_cells RW.out (by omega)
      obtain ⟨g2, cp2, hv2, hgl2, hcell2⟩ := rowS_cells RP.out (by omega)
      cases hv
      cases hv2
      have p0 := hcell q hql
      have r0 := hcell2 q hql
      obtain ⟨x, hx⟩ : ∃ x, x = l.getD q ⟨#[]⟩ := ⟨_, rfl⟩
      rw [← hx] at p0 r0
      have hb := hbq.out
      have s0 := hb.size
      have g1 : g < wr.heap.size := by omega
      have g3 : g2 < wr.heap.size := by omega
      have e0 : ∀ lx_ : Lat wr.heap.size wr, lx_.w.cell? ⟨g, q, none⟩ = some (.string x) := fun lx_ => by rw [lx_.cell _ _ g1]; exact (hb.cell (p := ⟨g, q, none⟩) hgl).trans p0
      have e2 : ∀ lx_ : Lat wr.heap.size wr, lx_.w.cell? ⟨g2, q, none⟩ = some (.string x) := fun lx_ => by rw [lx_.cell _ _ g3]; exact (hb.cell (p := ⟨g2, q, none⟩) hgl2).trans r0
      have iw5 : IntKind.i64.wrap ((q : Int) + 1) = (q : Int) + 1 := IntWalk.i64_in _ (by have := WL.out; omega)
      clear hx p0 r0 hcell hcell2 hb s0 hq
      go_upto_region 6 with fail
      refine wp_region_lat (by kernel_rfl) (by kernel_rfl) ?_
      repeat (go_big_quiet_step (fail))
      refine wpQuiet_nil ?_
      clear e0 e2
      rintro wy ⟨xy_, hxy⟩
      have hby := xy_.h
      rw [← hxy] at hby
      have HBY : Hid (Below w.heap.size w wy) := hbq.out.trans (hby.mono hbq.out.size)
      clear hxy xy_ hby
      go_wp2
      go_roundw
      case rel => exact ⟨q + 1, HQ.out, by go_num, HBY⟩
      case measure => have := HQ.out; simp [intOf]; omega
    · obtain rfl : q = l.length := by omega
      clear hql hq
      go_wp2
      go_ret
      exact ⟨rfl, hbq.out⟩
theorem wend_len {s : ByteArray} {q : Nat} {b : List UInt8} {l r : List ByteArray} (h : wend s q b l = .inr r) : r.length ≤ l.length + (if q = 1 then 1 else 0) := by
  unfold wend at h
  split at h
  · cases h
  · split at h <;> cases h <;> simp_all
theorem wstep_from1 {c : Nat} {enc b : List UInt8} {l : List ByteArray} {q' : Nat} {b' : List UInt8} {l' : List ByteArray} {q : Nat} (h : wstep q c enc b l = some (q', b', l')) : l'.length + (if q' = 1 then 1 else 0) ≤ l.length + (if q = 1 then 1 else 0) + 1 := by
  unfold wstep at h
  split at h
  · split at h
    · cases h; simp; omega
    · cases h
  · split at h
    · split at h
      · cases h; simp; omega
      · split at h
        · cases h; simp
        · cases h; simp; omega
    · split at h
      · split at h
        · cases h; simp_all
        · cases h; simp_all
      · split at h
        · cases h
        · split at h
          · cases h; simp; omega
          · cases h; simp
theorem bgo_len (s : ByteArray) : ∀ d i q b l r, s.size - i ≤ d → bgoA s i q b l = .inr r → r.length ≤ l.length + (if q = 1 then 1 else 0) + (s.size - i) := by
  intro d
  induction d with
  | zero =>
    intro i q b l r hd h
    rw [bgoA_end (by omega)] at h
    have := wend_len h
    omega
  | succ d ih =>
    intro i q b l r hd h
    by_cases hi : i < s.size
    · cases hw : wstep q (s.get! i).toNat [s.get! i] b l with
      | none => rw [bgoA_no hi hw] at h; cases h
      | some x =>
        obtain ⟨q', b', l'⟩ := x
        rw [bgoA_on hi hw] at h
        have h1 := ih _ _ _ _ _ (by omega) h
        have h2 := wstep_from1 hw
        omega
    · rw [bgoA_end hi] at h
      have := wend_len h
      omega
/-- The words of a text are no more than its bytes. -/
theorem wres_len (s : ByteArray) : (wres s).1.length ≤ s.size := by
  by_cases h : (chkA s 0 0).2.2 = 0
  · cases hw : wgoA s 0 0 [] [] with
    | inl k => rw [wres_no h hw]; simp
    | inr l =>
      rw [wres_ok h hw]
      rw [words_bytes h] at hw
      have := bgo_len s s.size 0 0 [] [] l (by omega) hw
      simpa using this
  · rw [wres_bad h]; simp
set_option maxRecDepth 20000 in
/-- RunesWords. -/
theorem words_walk (s : ByteArray) (w : World) (hs : s.size ≤ 4294967296) (hT : Lib.Utf8Tabs 0 1 w) : Calls Tryd.prog 4 #[.string s] w fun e w' => e = .returned (.bool true) ∧ Below w.heap.size w w' := by
  have HT := hid hT
  clear hT
  have HS := hid hs
  clear hs
  go_enter Tryd.func4, Tryd.ntmps4
  go_wp2_with fail
  refine (awake_any w HT.out).mono ?_
  rintro e w1 ⟨rfl, hb1⟩
  have B1 := hid hb1
  clear hb1
  go_wp2_with fail
  refine (words_any s w1 HS.out (hdec_of (tabs_below HT.out (tabs_size HT.out) B1.out) s)).mono ?_
  rintro e w2 ⟨v, rfl, hrow, hb2⟩
  obtain ⟨A, cap, rfl⟩ : ∃ A cap, v = .slice A (wres s).1.length cap := rowS_slice hrow
  have B2 := hid (B1.out.trans (hb2.mono B1.out.size))
  have R2 := hid hrow
  clear hb2 hrow
  go_wp2_with fail
  refine (rwords_any s w2 HS.out).mono ?_
  rintro e w3 ⟨v', rfl, hrow', hb3⟩
  obtain ⟨A', cap', rfl⟩ : ∃ A cap, v' = .slice A (wres s).1.length cap := rowS_slice hrow'
  have B3 := hid (B2.out.trans (hb3.mono B2.out.size))
  have R3 := hid (rowS_at R2.out (fun g hg => hb3.block g (R2.out.lt g hg).2))
  have R3' := hid hrow'
  have HL : Hid ((wres s).1.length ≤ 4294967296) := Nat.le_trans (wres_len s) HS.out
  clear hb3 hrow'
  generalize (wres s).1 = l at *
  generalize (wres s).2.1 = y at *
  generalize (wres s).2.2 = x at *
  go_wp2_with fail
  refine (same_eq w3 _ _ l R3.out R3'.out HL.out).mono ?_
  rintro e w4 ⟨rfl, hb4⟩
  have B4 := hid (B3.out.trans (hb4.mono B3.out.size))
  clear hb4
  go_wp2
  go_ret
  exact ⟨rfl, B4.out⟩
end Go.Proofs.YtlciijcfhfcbkaaDoor
