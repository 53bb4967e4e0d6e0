/- Chapter 15's statements: awake, plain, Same, place. -/
import Derived.Test.YteccpjijlkjneaaShV
import Derived.Deep.DeepCutAuto
import Derived.Deep.RegionLaw
import Derived.Deep.Upon
import Derived.BigRegion
namespace Go.Proofs.Yteccpjijlkjneaa
open Go.RowKit Go.WideShapes
variable {B n cap : Nat} {w w' wr : World} {A : Option Addr} {ks : List (List UInt8)} {v : Value}
abbrev bsK (k : List UInt8) : ByteArray := ⟨k.toArray⟩
/-- Names that lie in memory. -/
def SlN (w : World) (A : Option Addr) (n : Nat) (ks : List (List UInt8)) : Prop := n = ks.length ∧ (ks = [] ∨ ∃ b off, A = some ⟨b, off, none⟩ ∧ b < w.heap.size ∧ ∀ j (hj : j < ks.length), w.cell? ⟨b, off + j, none⟩ = some (.string (bsK ks[j])))
theorem SlN.below (h : SlN w A n ks) (hb : Below w.heap.size w w') : SlN w' A n ks := by
  obtain ⟨h1, rfl | ⟨b, off, rfl, hl, hc⟩⟩ := h
  · exact ⟨h1, .inl rfl⟩
  · exact ⟨h1, .inr ⟨b, off, rfl, Nat.lt_of_lt_of_le hl hb.size, fun j hj => (hb.cell hl).trans (hc j hj)⟩⟩
theorem SlN.of_row (h : w.ownsRow B 9 1 (.slice A n cap) n (rowK ks)) : SlN w A n ks := by
  have hl := row_len h
  refine ⟨hl.symm, ?_⟩
  by_cases h0 : ks = []
  · exact .inl h0
  · have : 0 < ks.length := List.length_pos_iff.2 h0
    obtain ⟨g, c, e, -, hg, hc⟩ := rowK_cells h (by omega)
    injection e with e1 e2 e3
    exact .inr ⟨g, 0, e1, hg, fun j hj => by rw [Nat.zero_add]; exact hc j hj⟩
theorem SlN.one {j : Nat} (h : SlN w A n ks) (hb : Below w.heap.size w w') (hj : j < n) : ∃ b off, ∃ hk : j < ks.length, A = some ⟨b, off, none⟩ ∧ b < w'.heap.size ∧ w'.cell? ⟨b, off + j, none⟩ = some (.string (bsK ks[j])) := by
  obtain ⟨h1, rfl | ⟨b, off, rfl, hl, hc⟩⟩ := h
  · simp at h1; omega
  · have hk : j < ks.length := by omega
    exact ⟨b, off, hk, rfl, Nat.lt_of_lt_of_le hl hb.size, (hb.cell hl).trans (hc j hk)⟩
set_option maxHeartbeats 2000000 in
theorem same_any {A2 : Option Addr} {n2 : Nat} (c c2 : Nat) (h : SlN w A n ks) (h2 : SlN w A2 n2 ks) (hn : n ≤ 100000) : Calls Try.prog 12 #[.slice A n c, .slice A2 n2 c2] w fun e w' => e = .returned (.bool true) ∧ Below w.heap.size w w' := by
  obtain rfl : n = n2 := h.1.trans h2.1.symm
  have HS := hid h
  have HT := hid h2
  have hnb : (n : Int) ≤ 100000 := by omega
  clear h h2 hn
  go_enter Try.func12, Try.ntmps12
  go_wp2_with fail
  go_loopw [5] (fun iv wr => ∃ i : Nat, i ≤ n ∧ iv = .int .i64 i ∧ Hid (Below w.heap.size w wr)) (fun iv _ => n - (intOf iv).toNat)
  case atStart => exact ⟨0, Nat.zero_le _, rfl, hid (Below.refl _ _)⟩
  case round =>
    obtain ⟨i, hi, rfl, HB⟩ := hrel
    by_cases hin : i < n
    · have HK1 : Hid (i + 1 ≤ n) := hin
      have HMS : Hid (n - (i + 1) < n - i) := by unfold Hid; omega
      have hii : (i : Int) < (n : Int) := by omega
      obtain ⟨b, off, hk, rfl, hl, c0⟩ := HS.out.one HB.out hin
      obtain ⟨b2, off2, hk2, rfl, hl2, c1⟩ := HT.out.one HB.out hin
      obtain ⟨z, hz⟩ : ∃ z, z = bsK ks[i] := ⟨_, rfl⟩
      rw [← hz] at c0 c1
      have hz2 : (z.toList == z.toList) = true := by simp
      have HB2 : Hid (∀ X, Below wr.heap.size wr X → Below w.heap.size w X) := fun X hb => HB.out.trans (hb.mono HB.out.size)
      clear hin hi hz
      go_upto_region 6 with (fail)
      go_quiet (fail)
      go_wp2
      go_roundw
      case rel => exact ⟨i + 1, HK1.out, by go_num, HB2.out _ (by repeat (first | with_reducible assumption | with_reducible exact Below.refl _ _ | with_reducible refine Below.drew ?_ | with_reducible refine below_drewN ?_ _ | with_reducible refine below_alloc ?_ _ | with_reducible refine Below.alloc ?_ (by first | omega | (simp; done) | (simp; omega)) _ | with_reducible refine Below.setCell ?_ (by first | omega | (simp; done) | (simp; omega)) _ | with_reducible refine below_setRow ?_ (by first | omega | (simp; done) | (simp; omega)) _))⟩
      case measure => have := HMS.out; simp [intOf]; omega
    · have hii : ¬ (i : Int) < (n : Int) := by omega
      clear hi hin
      go_wp2
      go_ret
      exact ⟨rfl, HB.out⟩
theorem heap_drew_keep {o : Obj} {g : Nat} (h : g < w.heap.size) : (w.alloc o).drew.heap[g]? = w.heap[g]? := Below.block (B := w.heap.size) (((Below.refl _ _).alloc (Nat.le_refl _) _).drew) g h
set_option maxRecDepth 20000 in
set_option maxHeartbeats 8000000 in
theorem plain_any {l : List Us} (h : SlU w A n l) (hm : n ≤ 1000) :
    Calls Try.prog 11 #[.slice A n cap] w fun e w' => ∃ v, e = .returned v ∧ w'.ownsRow w.heap.size 67 6 v n (flatR 6 fU l) ∧ Below w.heap.size w w' := by
  have HS := hid h
  have HL : Hid (n = l.length) := h.1
  have hnb : (n : Int) ≤ 1000 := by omega
  have HN := hid hm
  clear h hm
  go_enter Try.func11, Try.ntmps11
  go_wp2_with fail
  go_loopw [3, 4] (fun sv iv wr => ∃ (i : Nat) (v : Value), i ≤ n ∧ v = sv ∧ iv = .int .i64 i ∧ Hid (wr.ownsRow w.heap.size 67 6 v i (flatR 6 fU (l.take i)) ∧ Below w.heap.size w wr)) (fun _ iv _ => n - (intOf iv).toNat)
  case atStart => exact ⟨0, _, Nat.zero_le _, rfl, rfl, World.ownsRow_nil _ _ _ _, Below.refl _ _⟩
  case round =>
    obtain ⟨i, v, hi, rfl, rfl, HI⟩ := hrel
    by_cases hin : i < n
    · have HK1 : Hid (i + 1 ≤ n) := hin
      have HMS : Hid (n - (i + 1) < n - i) := by unfold Hid; omega
      have hii : (i : Int) < (n : Int) := by omega
      have hib : (i : Int) ≤ 1000 := by omega
      obtain ⟨u, hu⟩ : ∃ u, l[i]? = some u := ⟨_, List.getElem?_eq_getElem (by have := HL.out; omega)⟩
      obtain ⟨b, off, rfl, hbr, c0, c1, c2, c3, c4, c5⟩ := HS.out.one HI.out.2 hu
      obtain ⟨A3, cap3, rfl⟩ := rowR_shape HI.out.1
      have ha : (wr.alloc (.cells #[.string u.name, .int .i64 u.wt, .int .i64 u.a, .int .i64 u.b, .int .i64 u.c, .int .i64 u.d] 67)).drew.heap[wr.heap.size]? = some (.cells #[.string u.name, .int .i64 u.wt, .int .i64 u.a, .int .i64 u.b, .int .i64 u.c, .int .i64 u.d] 67 (0, 0)) := heap_drew_at (alloc_at wr _)
      have hb0 : Below wr.heap.size wr (wr.alloc (.cells #[.string u.name, .int .i64 u.wt, .int .i64 u.a, .int .i64 u.b, .int .i64 u.c, .int .i64 u.d] 67)).drew := (by repeat (first | with_reducible assumption | with_reducible exact Below.refl _ _ | with_reducible refine Below.drew ?_ | with_reducible refine below_drewN ?_ _ | with_reducible refine below_alloc ?_ _ | with_reducible refine Below.alloc ?_ (by first | omega | (simp; done) | (simp; omega)) _ | with_reducible refine Below.setCell ?_ (by first | omega | (simp; done) | (simp; omega)) _ | with_reducible refine below_setRow ?_ (by first | omega | (simp; done) | (simp; omega)) _))
      obtain ⟨g, cap4, w8, happ, hown, -, -, -, hb8⟩ := rowR_app (m := [u]) (f := fU) recU (by omega) fU_one (rowR_below HI.out.1 hb0) (by have := HN.out; simp; omega) (by have := HN.out; simp; omega) (Nat.le_trans HI.out.2.size hb0.size) ⟨wr.heap.size, 0, none⟩ 1 (by simp) (fun o x hx => by
        have ho : o < 6 := by
          have := (List.getElem?_eq_some_iff.1 hx).1
          rw [flatR_len] at this
          simpa using this
        have e0 : (⟨wr.heap.size, 0, none⟩ : Addr).add o = ⟨wr.heap.size, o, none⟩ := by unfold Addr.add; split <;> simp_all
        rw [e0, blk_cell ha, ← hx, flatR_one, fU_range]
        simp)
      have HAPP := hid happ
      have HI8 : Hid (w8.ownsRow w.heap.size 67 6 (.slice (some ⟨g, 0, none⟩) (i + 1) cap4) (i + 1) (flatR 6 fU (l.take (i + 1))) ∧ Below w.heap.size w w8) := by
        refine ⟨?_, (HI.out.2.trans (hb0.mono HI.out.2.size)).trans hb8⟩
        rw [List.take_add_one, hu]
        exact hown
      clear hu hi hin ha hb0 happ hown hb8 HI
      go_upto_region 5 with (fail)
      go_region_law (refine step_append_eq rfl (.tmp 11) (.tmp 28) 31 rfl (v := .slice A3 i cap3) (y := .slice (some ⟨wr.heap.size, 0, none⟩) 1 1) (by simp [Act.eval]) (by simp [Act.eval]) HAPP.out ?_)
      all_goals
        go_wp2
        go_roundw
        case rel => exact ⟨i + 1, _, HK1.out, rfl, by go_num, HI8⟩
        case measure => have := HMS.out; simp [intOf]; omega
    · obtain rfl : i = n := by omega
      have hii : ¬ (i : Int) < (i : Int) := by omega
      have HF : Hid (wr.ownsRow w.heap.size 67 6 v i (flatR 6 fU l) ∧ Below w.heap.size w wr) := by
        have := HI.out
        rw [List.take_of_length_le (by have := HL.out; omega)] at this
        exact this
      clear hi hin HI
      go_wp2
      go_ret
      exact ⟨_, rfl, HF.out.1, HF.out.2⟩
/-- Usages in an own row. -/
theorem SlU.of_row {T : TypeId} {l : List Us} (h : w.ownsRow B T 6 (.slice A n cap) n (flatR 6 fU l)) : SlU w A n l := by
  have hl := rowR_len h (by omega)
  refine ⟨hl.symm, ?_⟩
  by_cases h0 : l = []
  · exact .inl h0
  · have : 0 < l.length := List.length_pos_iff.2 h0
    obtain ⟨g, c, e, -, hg, -, hc⟩ := rowR_cells h (by omega)
    injection e with e1 e2 e3
    refine .inr ⟨g, 0, e1, hg, fun j u hj => ?_⟩
    rw [Nat.zero_add]
    exact ⟨hc j u hj 0 (by omega), hc j u hj 1 (by omega), hc j u hj 2 (by omega), hc j u hj 3 (by omega), hc j u hj 4 (by omega), hc j u hj 5 (by omega)⟩
def usA : Us := ⟨⟨#[97]⟩, 1, 4, 0, 0, 0⟩
def usB : Us := ⟨⟨#[98]⟩, 2, 4, 0, 0, 0⟩
theorem srt_ab : SrtO (10, 0, 0, 0) [usA, usB] [usB, usA] ∧ errO (10, 0, 0, 0) [usA, usB] = 0 := by
  refine ⟨⟨List.Perm.swap _ _ _, ?_⟩, ?_⟩
  · rw [List.pairwise_cons]
    refine ⟨fun y hy => ?_, by simp⟩
    rw [List.mem_singleton] at hy
    subst hy
    decide +kernel
  · decide +kernel
set_option maxRecDepth 100000 in
set_option maxHeartbeats 4000000 in
theorem awake_s (w : World) : Calls Try.prog 8 #[] w fun e w' => e = .returned (.bool true) ∧ Below w.heap.size w w' := by
  have ha : (w.alloc (.cells #[.string ⟨#[97]⟩, .int .i64 1, .int .i64 4, .int .i64 0, .int .i64 0, .int .i64 0, .string ⟨#[98]⟩, .int .i64 2, .int .i64 4, .int .i64 0, .int .i64 0, .int .i64 0] 37)).heap[w.heap.size]? = some (.cells #[.string ⟨#[97]⟩, .int .i64 1, .int .i64 4, .int .i64 0, .int .i64 0, .int .i64 0, .string ⟨#[98]⟩, .int .i64 2, .int .i64 4, .int .i64 0, .int .i64 0, .int .i64 0] 37 (0, 0)) := alloc_at w _
  have hb0 : Below w.heap.size w (w.alloc (.cells #[.string ⟨#[97]⟩, .int .i64 1, .int .i64 4, .int .i64 0, .int .i64 0, .int .i64 0, .string ⟨#[98]⟩, .int .i64 2, .int .i64 4, .int .i64 0, .int .i64 0, .int .i64 0] 37)) := (by repeat (first | with_reducible assumption | with_reducible exact Below.refl _ _ | with_reducible refine Below.drew ?_ | with_reducible refine below_drewN ?_ _ | with_reducible refine below_alloc ?_ _ | with_reducible refine Below.alloc ?_ (by first | omega | (simp; done) | (simp; omega)) _ | with_reducible refine Below.setCell ?_ (by first | omega | (simp; done) | (simp; omega)) _ | with_reducible refine below_setRow ?_ (by first | omega | (simp; done) | (simp; omega)) _))
  have HSL : Hid (SlU (w.alloc (.cells #[.string ⟨#[97]⟩, .int .i64 1, .int .i64 4, .int .i64 0, .int .i64 0, .int .i64 0, .string ⟨#[98]⟩, .int .i64 2, .int .i64 4, .int .i64 0, .int .i64 0, .int .i64 0] 37)) (some ⟨w.heap.size, 0, none⟩) 2 [usA, usB]) := by
    refine ⟨rfl, .inr ⟨w.heap.size, 0, rfl, lt_of_at ha, fun j u hj => ?_⟩⟩
    match j, hj with
    | 0, hj =>
      obtain rfl : usA = u := by simpa using hj
      exact ⟨(blk_cell ha _).trans rfl, (blk_cell ha _).trans rfl, (blk_cell ha _).trans rfl, (blk_cell ha _).trans rfl, (blk_cell ha _).trans rfl, (blk_cell ha _).trans rfl⟩
    | 1, hj =>
      obtain rfl : usB = u := by simpa using hj
      exact ⟨(blk_cell ha _).trans rfl, (blk_cell ha _).trans rfl, (blk_cell ha _).trans rfl, (blk_cell ha _).trans rfl, (blk_cell ha _).trans rfl, (blk_cell ha _).trans rfl⟩
    | j + 2, hj => simp at hj
  have HB0 := hid hb0
  clear ha hb0
  go_enter Try.func8, Try.ntmps8
  go_wp2_with fail
  refine (order_any (10, 0, 0, 0) HSL.out (by omega)).mono ?_
  rintro e w2 ⟨hP, hb⟩
  rcases hP with ⟨h1, -⟩ | ⟨-, v, s, hs, rfl, hrow⟩
  · exact absurd srt_ab.2 h1
  · obtain rfl : s = [usB, usA] := hs.unique srt_ab.1
    have hrow2 : w2.ownsRow _ 9 1 v 2 (rowK [[98], [97]]) := hrow
    obtain ⟨g, c, rfl, -, hgl, hc⟩ := rowK_cells hrow2 (by omega)
    have c0 : w2.cell? ⟨g, 0, none⟩ = some (.string ⟨#[98]⟩) := hc 0 (by simp)
    have HB : Hid (Below w.heap.size w w2) := HB0.out.trans (hb.mono HB0.out.size)
    clear hs hrow hrow2 hc hb HSL HB0
    go_wp2
    go_ret
    exact ⟨by first | rfl | simp, HB.out⟩
/-- Order's names: none where it is refused. -/
def OutK (W : V4) (l : List Us) (ks : List (List UInt8)) : Prop := (errO W l ≠ 0 ∧ ks = []) ∨ (errO W l = 0 ∧ ∃ s, SrtO W l s ∧ ks = nmK s)
theorem OutK.unique {W : V4} {l : List Us} {ks ks' : List (List UInt8)} (h : OutK W l ks) (h' : OutK W l ks') : ks = ks' := by
  rcases h with ⟨h1, rfl⟩ | ⟨h1, s, h2, rfl⟩
  · rcases h' with ⟨-, rfl⟩ | ⟨h3, -⟩
    · rfl
    · exact absurd h3 h1
  · rcases h' with ⟨h3, -⟩ | ⟨-, s', h4, rfl⟩
    · exact absurd h1 h3
    · rw [h2.unique h4]
theorem OutK.len {W : V4} {l : List Us} {ks : List (List UInt8)} (h : OutK W l ks) : ks.length ≤ l.length := by
  rcases h with ⟨-, rfl⟩ | ⟨-, s, h2, rfl⟩
  · simp
  · unfold nmK; rw [List.length_map, h2.1.length_eq]; exact Nat.le_refl _
theorem ord_q {W : V4} {l : List Us} {e : Ending} {b : Nat} (h : OrdP W l b e w) : ∃ ks A c, e = .returned (.tuple #[.slice A ks.length c, .int .i64 (errO W l)]) ∧ OutK W l ks ∧ SlN w A ks.length ks ∧ ∀ g o, A = some ⟨g, o, none⟩ → b ≤ g := by
  rcases h with ⟨h1, rfl⟩ | ⟨h1, v, s, h2, rfl, hrow⟩
  · exact ⟨[], none, 0, rfl, .inl ⟨h1, rfl⟩, ⟨rfl, .inl rfl⟩, fun g o e => nomatch e⟩
  · obtain ⟨A, c, rfl⟩ := row_slice hrow
    have hl := row_len hrow
    rw [← hl] at hrow
    refine ⟨nmK s, A, c, by rw [h1, hl], .inr ⟨h1, s, h2, rfl⟩, SlN.of_row hrow, fun g o e => ?_⟩
    subst e
    obtain ⟨-, ⟨h3, -⟩ | ⟨g', cap, cur, h3, hg, -⟩⟩ := hrow
    · cases h3
    · cases h3; exact hg
theorem order_q {l : List Us} (W : V4) (h : SlU w A n l) (hn : n ≤ 1000) (cap : Nat) : Calls Try.prog 9 #[.agg (vI W), .slice A n cap] w fun e w' => (∃ ks A c, e = .returned (.tuple #[.slice A ks.length c, .int .i64 (errO W l)]) ∧ OutK W l ks ∧ SlN w' A ks.length ks ∧ ∀ g o, A = some ⟨g, o, none⟩ → w.heap.size ≤ g) ∧ Below w.heap.size w w' :=
  (order_any W h hn).mono fun _ _ ⟨h1, h2⟩ => ⟨ord_q h1, h2⟩
theorem rorder_q {l : List Us} (W : V4) (h : SlU w A n l) (hn : n ≤ 1000) (cap : Nat) : Calls Try.prog 10 #[.agg (vI W), .slice A n cap] w fun e w' => (∃ ks A c, e = .returned (.tuple #[.slice A ks.length c, .int .i64 (errO W l)]) ∧ OutK W l ks ∧ SlN w' A ks.length ks ∧ ∀ g o, A = some ⟨g, o, none⟩ → w.heap.size ≤ g) ∧ Below w.heap.size w w' :=
  (rorder_any W h hn).mono fun _ _ ⟨h1, h2⟩ => ⟨ord_q h1, h2⟩
theorem plain_q {l : List Us} (h : SlU w A n l) (hm : n ≤ 1000) : Calls Try.prog 11 #[.slice A n cap] w fun e w' => (∃ A2 c, e = .returned (.slice A2 n c) ∧ SlU w' A2 n l) ∧ Below w.heap.size w w' := by
  refine (plain_any h hm).mono ?_
  rintro e w' ⟨v, rfl, hrow, hb⟩
  obtain ⟨A2, c, rfl⟩ := rowR_shape hrow
  exact ⟨⟨A2, c, rfl, SlU.of_row hrow⟩, hb⟩
end Go.Proofs.Yteccpjijlkjneaa
