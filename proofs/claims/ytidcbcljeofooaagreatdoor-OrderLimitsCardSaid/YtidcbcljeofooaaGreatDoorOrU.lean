/- Chapter 20: the program's reader: list. -/
import Derived.Test.YtidcbcljeofooaaGreatDoorOrT
namespace Go.Proofs.YtidcbcljeofooaaGreatDoor
open Go.RowKit
variable {B n cap : Nat} {w w' wr : World} {A : Option Addr}
/-- A number is put behind a row. -/
theorem rowZ_app {T : World} {g : Nat} {zs : List Int} {x : Int} (h : w.ownsRow B 2 1 (.slice A n cap) n (flatR 1 fZ zs)) (hn : n + 1 ≤ 1000000) (hB : B ≤ w.heap.size) (hb : Below w.heap.size w T) (hg : T.heap[g]? = some (.cells #[.int .i64 x] 2 (0, 0))) :
    ∃ g' cap' w8, (Builtin.append_ #[27, 27] 27 #[.slice A n cap, .slice (some ⟨g, 0, none⟩) 1 1]).run Tryz.prog T = .ok (.slice (some ⟨g', 0, none⟩) (n + 1) cap') w8 ∧
      w8.ownsRow B 2 1 (.slice (some ⟨g', 0, none⟩) (n + 1) cap') (n + 1) (flatR 1 fZ (zs ++ [x])) ∧ Below B T w8 := by
  obtain ⟨g', cap', w8, happ, hown, -, -, -, hb8⟩ := rowR_app (m := [x]) (f := fZ) recZ (by omega) fZ_one (rowR_below h hb) (by simp; omega) (by simp; omega) (Nat.le_trans hB hb.size) ⟨g, 0, none⟩ 1 (by simp) (fun o u hx => by
    have ho : o < 1 := by
      have := (List.getElem?_eq_some_iff.1 hx).1
      rw [flatR_len] at this
      simpa using this
    have e0 : (⟨g, 0, none⟩ : Addr).add o = ⟨g, o, none⟩ := by unfold Addr.add; split <;> simp_all
    rw [e0, blk_cell hg, ← hx, flatR_one]
    have : o = 0 := by omega
    subst this
    rfl)
  exact ⟨g', cap', w8, happ, hown, hb8⟩
theorem row_base {B B' t z k : Nat} {v : Value} {xs : List Value} (hB : B ≤ B') (h : w.ownsRow B' t z v k xs) : w.ownsRow B t z v k xs := by
  obtain ⟨h3, h4 | ⟨g, cap, cur, rfl, hg, rest⟩⟩ := h
  · exact ⟨h3, .inl h4⟩
  · exact ⟨h3, .inr ⟨g, cap, cur, rfl, Nat.le_trans hB hg, rest⟩⟩
/-- What a list answers. -/
def LstQ (R : Nat) (bad : Bool) (L : List UInt8) (w : World) (e : Ending) (w' : World) : Prop :=
  ∃ v zs, e = .returned v ∧ w'.ownsRow w.heap.size 2 1 v zs.length (flatR 1 fZ zs) ∧ (∀ x, lstP L = some x → zs = x) ∧ zs.length ≤ L.length + 1 ∧ Rdr R (bad || (lstP L).isNone) w w'
/-- The list under way: i of its words have been read. -/
def LsI (R sb B1 : Nat) (bad : Bool) (P : List (List UInt8)) (i : Nat) (lv : Value) (w wr : World) : Prop :=
  ∃ zs : List Int, wr.ownsRow B1 2 1 lv i (flatR 1 fZ zs) ∧ (∀ m : List Nat, allP numP (P.take i) = some m → zs = m.map fun n : Nat => (n : Int)) ∧ Rdr R (bad || (allP numP (P.take i)).isNone) w wr ∧
    (∀ j x, P[j]? = some x → wr.cell? ⟨sb, j, none⟩ = some (.string ⟨x.toArray⟩)) ∧ B1 ≤ wr.heap.size
theorem allP_flag {P : List (List UInt8)} {i : Nat} {x : List UInt8} (hx : P[i]? = some x) : (allP numP (P.take (i + 1))).isNone = ((allP numP (P.take i)).isNone || (numP x).isNone) := by
  rw [List.take_add_one, hx, Option.toList_some, allP_snoc]
  cases allP numP (P.take i) <;> cases numP x <;> rfl
set_option maxHeartbeats 8000000 in
set_option maxRecDepth 20000 in
theorem list_any (s : ByteArray) (w : World) (R : Nat) (bad : Bool) (hR : w.heap[R]? = some (.cells #[.bool bad] 63 (0, 0))) (hs : s.size ≤ 100000) :
    Calls Tryz.prog 56 #[.pointer (some ⟨R, 0, none⟩), .string s] w (LstQ R bad s.data.toList w) := by
  have HR := hid hR
  have HS := hid (fun W => split_any 44 s W (by omega))
  have HSM := hid (fun x hx => spl_small (c := 44) (s := s) (x := x) hx)
  have HSZ := hid hs
  have HPL : Hid ((spl 44 s.data.toList).length ≤ s.size + 1) := by
    have : (spl 44 s.data.toList).length ≤ _ := splG_len 44 s.data.toList []
    have hl : s.data.toList.length = s.size := by simp
    unfold Hid
    omega
  clear hR hs
  have hlr : R < w.heap.size := lt_of_at HR.out
  by_cases hd : s = ⟨#[45]⟩
  · subst hd
    have FIN : Hid (LstQ R bad (⟨#[45]⟩ : ByteArray).data.toList w (.returned (.slice none 0 0)) w) := ⟨_, [], rfl, World.ownsRow_nil _ _ _ _, fun x hx => (by injection hx with hx), by simp, by
      show Rdr R (bad || false) w w
      rw [Bool.or_false]
      exact rdr_below (Below.refl _ _) HR.out⟩
    clear HS HSM HPL
    go_enter Tryz.func56, Tryz.ntmps56
    go_wp2
    go_ret
    exact FIN.out
  · have hq : (s.toList == [45]) = false := by
      rw [beq_eq_false_iff_ne]
      intro e
      exact hd (ByteArray.ext (Array.ext' (by rw [← Go.Lib.toList_data]; exact e)))
    have HLP : Hid (lstP s.data.toList = (match allP numP (spl 44 s.data.toList) with | some m => some (ded (m.map fun n : Nat => (n : Int))) | none => none)) := by
      unfold Hid lstP
      rw [if_neg (fun e => hd (ByteArray.ext (Array.ext' e)))]
      rfl
    clear hd
    obtain ⟨P, hP⟩ : ∃ P, P = spl 44 s.data.toList := ⟨_, rfl⟩
    rw [← hP] at HLP HPL HSM
    have HS2 := HS
    clear HS
    have HC : Hid (∀ W, Calls Tryz.prog 78 #[.string s, .string ⟨#[44]⟩] W fun e w' => ∃ n, n = P.length ∧ e = .returned (.slice (some ⟨W.heap.size, 0, none⟩) n n) ∧ W.heap.size < w'.heap.size ∧
      (∀ i x, P[i]? = some x → w'.cell? ⟨W.heap.size, i, none⟩ = some (.string ⟨x.toArray⟩)) ∧ Below W.heap.size W w') := by rw [hP]; exact HS2.out
    clear HS2 hP
    go_enter Tryz.func56, Tryz.ntmps56
    go_wp2_with fail
    refine (HC.out _).mono ?_
    rintro e w1 ⟨n, hn, rfl, hsz1, hc1, hb1⟩
    clear HC
    have R1 : w1.heap[R]? = some (.cells #[.bool bad] 63 (0, 0)) := (hb1.block R hlr).trans HR.out
    have HI0 : Hid (LsI R w.heap.size w1.heap.size bad P 0 (.slice none 0 0) w w1) := ⟨[], World.ownsRow_nil _ _ _ _, fun m hm => (by rw [List.take_zero] at hm; injection hm with hm; rw [← hm]; rfl), by
      show Rdr R (bad || false) w w1
      rw [Bool.or_false]
      exact rdr_below hb1 R1, hc1, Nat.le_refl _⟩
    have HN : Hid (n = P.length ∧ n ≤ 100001) := ⟨hn, by rw [hn]; have := HPL.out; have := HSZ.out; omega⟩
    have hnb : (n : Int) ≤ 100001 := by have := HN.out.2; omega
    have HB1 : Hid (w.heap.size < w1.heap.size) := hsz1
    clear hc1 hb1 hn R1 hsz1 HR
    go_wp2_with fail
    go_loopw [5, 13] (fun lv iv wr => ∃ (i : Nat) (A : Option Addr) (cap : Nat), i ≤ n ∧ lv = .slice A i cap ∧ iv = .int .i64 i ∧ Hid (LsI R w.heap.size w1.heap.size bad P i lv w wr)) (fun _ iv _ => n - (intOf iv).toNat)
    case atStart => exact ⟨0, none, 0, Nat.zero_le _, rfl, rfl, HI0⟩
    case round =>
      clear HI0
      obtain ⟨i, A, cap, hi, rfl, rfl, HI⟩ := hrel
      by_cases hin : i < n
      · have HK1 : Hid (i + 1 ≤ n) := hin
        have HMS : Hid (n - (i + 1) < n - i) := by unfold Hid; omega
        have hii : (i : Int) < (n : Int) := by omega
        obtain ⟨x, hx⟩ : ∃ x, P[i]? = some x := ⟨_, List.getElem?_eq_getElem (by have := HN.out.1; omega)⟩
        have c0 : wr.cell? ⟨w.heap.size, i, none⟩ = some (.string ⟨x.toArray⟩) := by obtain ⟨_, -, -, -, h4, -⟩ := HI.out; exact h4 i x hx
        have hxs : (⟨x.toArray⟩ : ByteArray).size ≤ 1048576 := by
          have h1 := HSM.out x (List.mem_of_getElem? hx)
          have h2 := HSZ.out
          show x.toArray.size ≤ _
          rw [List.size_toArray]; omega
        have HX := hid hx
        have HRr : Hid (wr.heap[R]? = some (.cells #[.bool (bad || (allP numP (P.take i)).isNone)] 63 (0, 0))) := by obtain ⟨_, -, -, h4, -⟩ := HI.out; exact h4.1
        have HNUM := hid (number_any ⟨x.toArray⟩ wr R _ HRr.out hxs)
        clear hin hi hx HRr hxs
        go_wp2_with fail
        refine HNUM.out.mono ?_
        rintro e w2 ⟨m, rfl, hm, hr2⟩
        clear HNUM c0
        obtain ⟨zs, hrow, hzs, hrdr, hcel, hB1⟩ := HI.out
        have hrow2 : w2.ownsRow w1.heap.size 2 1 (.slice A i cap) i (flatR 1 fZ zs) := rowR_kept hrow fun g hg => hr2.2.block g (hrow.lt g hg).2 (fun e => by injection e with e; have := (hrow.lt g hg).1; have := HB1.out; omega)
        have hb0 : Below w2.heap.size w2 (w2.alloc (.cells #[.int .i64 m] 2)) := (by repeat (first | with_reducible assumption | with_reducible exact Below.refl _ _ | with_reducible refine Below.drew ?_ | with_reducible refine below_drewN ?_ _ | with_reducible refine below_alloc ?_ _ | with_reducible refine Below.alloc ?_ (by first | omega | (simp; done) | (simp; omega)) _ | with_reducible refine Below.setCell ?_ (by first | omega | (simp; done) | (simp; omega)) _ | with_reducible refine below_setRow ?_ (by first | omega | (simp; done) | (simp; omega)) _))
        have hB2 : w1.heap.size ≤ w2.heap.size := Nat.le_trans hB1 hr2.size
        obtain ⟨g', cap', w3, happ, hown, hb3⟩ := rowZ_app hrow2 (by have := HN.out.2; have := HK1.out; omega) hB2 hb0 (alloc_at w2 _)
        have HAPP := hid happ
        have hbw : Below w1.heap.size w2 w3 := Below.trans (hb0.mono hB2) hb3
        have HI3 : Hid (LsI R w.heap.size w1.heap.size bad P (i + 1) (.slice (some ⟨g', 0, none⟩) (i + 1) cap') w w3) := by
          refine ⟨zs ++ [m], hown, fun l hl => ?_, ?_, fun j y hy => ?_, Nat.le_trans hB2 hbw.size⟩
          · rw [List.take_add_one, HX.out, Option.toList_some, allP_snoc] at hl
            cases q1 : allP numP (P.take i) with
            | none => rw [q1] at hl; cases hl
            | some l' =>
              cases q2 : numP x with
              | none => rw [q1, q2] at hl; cases hl
              | some m' =>
                rw [q1, q2] at hl
                injection hl with hl
                subst hl
                rw [hzs _ q1, hm _ q2]
                simp
          · rw [allP_flag HX.out, ← Bool.or_assoc]
            exact (hrdr.trans hr2).on hlr (hbw.mono (Nat.le_of_lt HB1.out))
          · have h1 := hr2.cell (hcel j y hy) (by omega) (Nat.lt_of_lt_of_le HB1.out hB1)
            exact (hbw.cell (p := ⟨w.heap.size, j, none⟩) HB1.out).trans h1
        clear happ hown hb3 hbw hrow hrow2 hzs hrdr hcel hB1 hB2 hb0 hm hr2 HI
        go_wp2_with (first | (at_builtin; refine wpList_append_eq rfl _ _ _ rfl rfl rfl HAPP.out ?_))
        go_roundw
        case rel => exact ⟨i + 1, _, _, HK1.out, rfl, by go_num, HI3⟩
        case measure => have := HMS.out; simp [intOf]; omega
      · obtain rfl : i = n := by omega
        have hii : ¬ (i : Int) < (i : Int) := by omega
        clear hin hi
        obtain ⟨zs, hrow, hzs, hrdr, hcel, hB1⟩ := HI.out
        have hzl := rowR_len hrow (by omega)
        rw [flat_Z] at hrow
        have HSO := hid (sort_row hrow (by have := HN.out.2; omega))
        go_wp2_with fail
        refine HSO.out.mono ?_
        rintro e w2 ⟨rfl, hrow2, hg2⟩
        have HCO := hid (compact_row hrow2 (by have := HN.out.2; omega))
        go_wp2_with fail
        refine HCO.out.mono ?_
        rintro e w3 ⟨v', rfl, hrow3, hbl, hg3⟩
        rw [compact_ded] at hrow3
        have hB : w1.heap.size ≤ wr.heap.size := hB1
        have hb2 : Below w1.heap.size wr w2 := Below.grown (Below.refl _ _) hg2 hB (fun j e => (hrow.lt j e).1)
        have hb3 : Below w1.heap.size w2 w3 := Below.grown (Below.refl _ _) hg3 (Nat.le_trans hB hb2.size) (fun j e => (hrow.lt j e).1)
        have FIN : Hid (LstQ R bad s.data.toList w (.returned v') w3) := by
          have hrd := hrdr.on hlr ((hb2.trans hb3).mono (Nat.le_of_lt HB1.out))
          rw [List.take_of_length_le (by have := HN.out.1; omega)] at hrd hzs
          refine ⟨v', ded zs, rfl, ?_, fun x hx => ?_, ?_, ?_⟩
          · rw [flat_Z]
            exact row_base (Nat.le_of_lt HB1.out) hrow3
          · rw [HLP.out] at hx
            cases q : allP numP P with
            | none => rw [q] at hx; cases hx
            | some m =>
              rw [q] at hx
              injection hx with hx
              rw [hzs _ q]; exact hx
          · have h1 := ded_len zs
            have h2 := HPL.out
            have h3 := HN.out.1
            have hl : s.data.toList.length = s.size := by simp
            omega
          · rw [HLP.out]
            cases q : allP numP P with
            | none => rw [q] at hrd; exact hrd
            | some m => rw [q] at hrd; exact hrd
        clear hrow hzs hrdr hcel hB1 hrow2 hg2 hrow3 hbl hg3 hB hb2 hb3 HSO HCO HI
        go_wp2
        go_ret
        exact FIN.out
end Go.Proofs.YtidcbcljeofooaaGreatDoor
