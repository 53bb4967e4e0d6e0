/- Chapter 12's reference graph: Done. -/
import Derived.Test.YtolfioiccmmifaaDrF
namespace Go.Proofs.Ytolfioiccmmifaa
open Go.RowKit
variable {B H g cap : Nat} {w w' wr : World} {P P' : Nat → Value} {G G' : Gr} {J J' : List Nat} {v v' : Value}
/-- A graph whose states alone are changed: of one job. -/
def Gr.put (G : Gr) (y s : Nat) : Gr := ⟨upd G.st y s, G.X, G.pe⟩
theorem put_put (G : Gr) (y s t : Nat) (h : G.st y = t) : (G.put y s).put y t = G := by
  unfold Gr.put
  have : upd (upd G.st y s) y t = G.st := by
    funext x
    by_cases e : x = y
    · subst e; rw [upd_same, h]
    · rw [upd_ne _ _ e, upd_ne _ _ e]
  rw [this]
theorem RefJ.belowB (h0 : RefJ B w H v P G J) (h : RefJ B wr H v P G' J) (hb : Below w.heap.size wr w') : RefJ B w' H v P G' J := h.at (fun k hk => hb.block k (by
  rcases hk with rfl | e
  · exact h0.ltH
  · exact (h0.row.lt k e).2)) fun x hx k hk => hb.block k ((h0.par x hx).lt k hk).2
theorem RefJ.here {n : Nat} (h : RefJ B w H (.slice (some ⟨g, 0, none⟩) n cap) P G J) (hq : 0 < J.length) : H < w.heap.size ∧ g < w.heap.size ∧ w.cell? ⟨H, 0, none⟩ = some (.slice (some ⟨g, 0, none⟩) n cap) ∧ (∀ o, w.frozen? ⟨H, o, none⟩ = false) ∧ (∀ o, w.frozen? ⟨g, o, none⟩ = false) ∧
    ∀ i x, J[i]? = some x → w.cell? ⟨g, i * 3, none⟩ = some (.int .i64 (x : Nat)) ∧ w.cell? ⟨g, i * 3 + 1, none⟩ = some (P x) ∧ w.cell? ⟨g, i * 3 + 2, none⟩ = some (.int .i64 (G.st x : Nat)) := by
  obtain ⟨g', c', e, -, hgl, gf, hc⟩ := h.open_ hq
  injection e with e1 e2 e3
  injection e1 with e1
  injection e1 with e1
  subst e1 e3
  exact ⟨h.ltH, hgl, h.head.1, h.head.2.1, gf, hc⟩
/-- What becomes free by y's end. -/
def Gr.newF (G : Gr) (J : List Nat) (y x : Nat) : Bool := !decide (G.frR J x) && decide ((G.put y 2).frR J x)
/-- What Done answers, and what is there behind it. -/
inductive DoneR (B H : Nat) (w : World) (v : Value) (P : Nat → Value) (G : Gr) (J : List Nat) (id : Int) (e : Ending) (w' : World) : Prop
  | none : (∀ y ∈ J, ((y : Nat) : Int) ≠ id) → e = .returned (.tuple #[.slice none 0 0, .int .i64 3]) → Below w.heap.size w w' → DoneR B H w v P G J id e w'
  | state {y : Nat} : id = y → y ∈ J → ¬ G.frR J id → e = .returned (.tuple #[.slice none 0 0, .int .i64 10]) → Below w.heap.size w w' → DoneR B H w v P G J id e w'
  | ok {y : Nat} : id = y → y ∈ J → G.frR J id → (∃ v', e = .returned (.tuple #[v', .int .i64 0]) ∧ w'.ownsRow w.heap.size 2 1 v' (J.filter (G.newF J y)).length (rowD (J.filter (G.newF J y)))) → RefJ B w' H v P (G.put y 2) J → Tur (FootW H v) w w' → DoneR B H w v P G J id e w'
theorem filter_nextN {l : List Nat} {i x : Nat} {q : Nat → Bool} (h : l[i]? = some x) : (l.take (i + 1)).filter q = (l.take i).filter q ++ (if q x then [x] else []) := by
  rw [take_next h, List.filter_append]
  cases hq : q x <;> simp [hq]
set_option maxRecDepth 100000 in
set_option maxHeartbeats 16000000 in
theorem rdone_g (id : Int) (h : RefJ B w H v P G J) (hn : J.Nodup) (hm : J.length ≤ 100) (hq : ∀ x ∈ J, (G.pa x).length ≤ 1000) :
    Calls Try.prog 30 #[.pointer (some ⟨H, 0, none⟩), .int .i64 id] w fun e w' => DoneR B H w v P G J id e w' := by
  have HV := hid h
  have HN := hid hn
  have HM := hid hm
  have HQ := hid hq
  obtain ⟨A0, c0, rfl⟩ := row_shape h.row
  have hlH := h.ltH
  have HF := hid (find_g h (by omega) id)
  have hJb : (J.length : Int) ≤ 100 := by omega
  clear h hn hm hq
  go_enter Try.func30, Try.ntmps30
  go_wp2_with fail
  refine HF.out.mono ?_
  rintro e w1 ⟨⟨k, rfl, hk⟩, hb1⟩
  have HB1 := hid hb1
  clear HF
  rcases hk with ⟨q, y, rfl, hqy, rfl⟩ | ⟨rfl, hno⟩
  case inr =>
    have FIN := hid hno
    clear hno hb1
    go_wp2
    go_ret2
    exact .none FIN.out rfl HB1.out
  case inl =>
  have hyJ := List.mem_of_getElem? hqy
  have HYJ := hid hyJ
  have HQY := hid hqy
  have hqq : (q : Int) < (J.length : Int) := by obtain ⟨_, _⟩ := getq hqy; omega
  have HFR := hid (rfree_g (HV.out.below hb1) HN.out (by omega) HQ.out (y : Int))
  clear hb1 hyJ
  by_cases hfr : G.frR J (y : Int)
  case neg =>
    rw [decide_eq_false hfr] at HFR
    have FIN := hid hfr
    clear hfr hqy
    go_wp2_with fail
    refine HFR.out.mono ?_
    rintro e w2 ⟨rfl, hb2⟩
    have HB2 := hid (HB1.out.trans (hb2.mono HB1.out.size))
    clear hb2 HFR
    go_wp2
    go_ret2
    exact .state rfl HYJ.out FIN.out rfl HB2.out
  case pos =>
  rw [decide_eq_true hfr] at HFR
  have HFRY := hid hfr
  have HST : Hid (G.st y = 1) := by
    obtain ⟨z, -, e, h1, -⟩ := hfr
    have : z = y := by omega
    rw [← this]; exact h1
  obtain ⟨g, rfl, -, hgH, hfa⟩ := HV.out.facts hqy
  clear hfr hfa hqy
  go_wp2_with fail
  refine HFR.out.mono ?_
  rintro e w2 ⟨rfl, hb2⟩
  have B2 := HB1.out.trans (hb2.mono HB1.out.size)
  have HRA : Hid (w2.ownsRow w.heap.size 2 1 (.slice none 0 0) ([] : List Nat).length (rowD []) ∧ RefJ B w2 H (.slice (some ⟨g, 0, none⟩) J.length c0) P G J ∧ Tur (FootW H (.slice (some ⟨g, 0, none⟩) J.length c0)) w w2) := ⟨World.ownsRow_nil _ _ _ _, HV.out.below B2, Tur.of_below B2⟩
  clear hb2 HFR B2 HB1
  have hk0 := HRA.out.2.1.head.1
  have hkl := HRA.out.2.1.ltH
  go_wp2_with fail
  go_loopw [7, 8] (fun sv iv wr => ∃ (i : Nat) (M : List Nat) (v : Value), i ≤ J.length ∧ v = sv ∧ iv = .int .i64 i ∧ Hid (M = (J.take i).filter (G.newF J y)) ∧ Hid (wr.ownsRow w.heap.size 2 1 v M.length (rowD M) ∧ RefJ B wr H (.slice (some ⟨g, 0, none⟩) J.length c0) P G J ∧ Tur (FootW H (.slice (some ⟨g, 0, none⟩) J.length c0)) w wr)) (fun _ iv _ => J.length - (intOf iv).toNat)
  case atStart => exact ⟨0, [], _, Nat.zero_le _, rfl, rfl, hid (by simp), HRA⟩
  case round =>
    clear HRA hk0 hkl
    obtain ⟨i, M, v, hi, rfl, rfl, HM', HI⟩ := hrel
    obtain ⟨A5, c5, rfl⟩ := row_shape HI.out.1
    have hm0 := HI.out.2.1.head.1
    have hml := HI.out.2.1.ltH
    by_cases hin : i < J.length
    · have HI1 : Hid (i + 1 ≤ J.length) := hin
      have HMS : Hid (J.length - (i + 1) < J.length - i) := by unfold Hid; omega
      have hii : (i : Int) < (J.length : Int) := by omega
      obtain ⟨x, hx⟩ : ∃ x, J[i]? = some x := ⟨_, List.getElem?_eq_getElem hin⟩
      have HX := hid hx
      obtain ⟨l1, l2, m0, mf, gf, hc⟩ := HI.out.2.1.here (by omega)
      obtain ⟨x0, -, -⟩ := hc i x hx
      have HFX := hid (rfree_g HI.out.2.1 HN.out (by have := HM.out; omega) HQ.out (x : Int))
      clear hc hin hi hx hm0 hml
      go_wp2_with fail
      refine HFX.out.mono ?_
      rintro e w8 ⟨rfl, hb8⟩
      have HI8 : Hid (w8.ownsRow w.heap.size 2 1 (.slice A5 M.length c5) M.length (rowD M) ∧ RefJ B w8 H (.slice (some ⟨g, 0, none⟩) J.length c0) P G J ∧ Tur (FootW H (.slice (some ⟨g, 0, none⟩) J.length c0)) w w8) := ⟨rowN_kept HI.out.1 fun k hk => hb8.block k (HI.out.1.lt k hk).2, HI.out.2.1.below hb8, HI.out.2.2.then (Tur.of_below hb8)⟩
      clear hb8 HFX HI l1 l2 m0 mf gf x0
      obtain ⟨r1, hr1⟩ : ∃ r1, r1 = decide (G.frR J (x : Int)) := ⟨_, rfl⟩
      rw [← hr1]
      have HR1 := hid hr1
      obtain ⟨l1, l2, m0, mf, gf, hc⟩ := HI8.out.2.1.here (by omega)
      obtain ⟨-, -, y2⟩ := hc q y HQY.out
      clear hc hr1
      go_upto_region 12 with (fail)
      refine wp_name ?_
      intro w9 hw9
      have S9 := HI8.out.2.1.setSt HN.out HQY.out 2
      rw [show ((2 : Nat) : Int) = 2 by rfl, ← hw9] at S9
      have HI9 : Hid (w9.ownsRow w.heap.size 2 1 (.slice A5 M.length c5) M.length (rowD M) ∧ RefJ B w9 H (.slice (some ⟨g, 0, none⟩) J.length c0) P (G.put y 2) J ∧ Tur (FootW H (.slice (some ⟨g, 0, none⟩) J.length c0)) w w9) := ⟨HI8.out.2.1.parKept S9.2 HI8.out.1, S9.1, HI8.out.2.2.then S9.2⟩
      clear hw9 S9 HI8 l1 l2 m0 mf gf y2
      obtain ⟨l1, l2, m0, mf, gf, hc⟩ := HI9.out.2.1.here (by omega)
      obtain ⟨x0, -, -⟩ := hc i x HX.out
      obtain ⟨-, -, y2⟩ := hc q y HQY.out
      clear hc
      have HFX := hid (rfree_g HI9.out.2.1 HN.out (by have := HM.out; omega) HQ.out (x : Int))
      -- the round's end, whatever was put behind
      have BACK : Hid (∀ W M' v', M' = (J.take (i + 1)).filter (G.newF J y) → W.ownsRow w.heap.size 2 1 v' M'.length (rowD M') → RefJ B W H (.slice (some ⟨g, 0, none⟩) J.length c0) P (G.put y 2) J → Tur (FootW H (.slice (some ⟨g, 0, none⟩) J.length c0)) w W → M' = (J.take (i + 1)).filter (G.newF J y) ∧ (W.setCell ⟨g, q * 3 + 2, none⟩ (.int .i64 1)).ownsRow w.heap.size 2 1 v' M'.length (rowD M') ∧ RefJ B (W.setCell ⟨g, q * 3 + 2, none⟩ (.int .i64 1)) H (.slice (some ⟨g, 0, none⟩) J.length c0) P G J ∧ Tur (FootW H (.slice (some ⟨g, 0, none⟩) J.length c0)) w (W.setCell ⟨g, q * 3 + 2, none⟩ (.int .i64 1))) := fun W M' v' e1 h1 h2 h3 => by
        have S := h2.setSt HN.out HQY.out 1
        rw [show ((1 : Nat) : Int) = 1 by rfl] at S
        have S1 : RefJ B (W.setCell ⟨g, q * 3 + 2, none⟩ (.int .i64 1)) H (.slice (some ⟨g, 0, none⟩) J.length c0) P ((G.put y 2).put y 1) J := S.1
        rw [put_put G y 2 1 HST.out] at S1
        exact ⟨e1, h2.parKept S.2 h1, S1, h3.then S.2⟩
      have hnf : G.newF J y x = (!r1 && decide ((G.put y 2).frR J (x : Int))) := by unfold Gr.newF; rw [HR1.out]
      cases r1 with
      | true =>
        have HB := hid (BACK.out w9 M _ (by rw [filter_nextN HX.out, hnf]; simp [HM'.out]) HI9.out.1 HI9.out.2.1 HI9.out.2.2)
        have HB1 := hid HB.out.1
        have HB2 := hid HB.out.2
        clear BACK HFX HI9 hnf HB
        go_wp2
        go_roundw
        case rel => exact ⟨i + 1, M, _, HI1.out, rfl, by go_num, HB1, HB2⟩
        case measure => have := HMS.out; simp [intOf]; omega
      | false =>
        clear l1 l2 m0 mf gf x0 y2
        obtain ⟨l1, l2, m0, mf, gf, hc⟩ := HI9.out.2.1.here (by omega)
        obtain ⟨x0, -, -⟩ := hc i x HX.out
        obtain ⟨r2, hr2⟩ : ∃ r2, r2 = decide ((G.put y 2).frR J (x : Int)) := ⟨_, rfl⟩
        rw [← hr2] at HFX hnf
        have HNF := hid hnf
        clear hc hr2 hnf
        go_wp2_with fail
        refine HFX.out.mono ?_
        rintro e w10 ⟨rfl, hb10⟩
        have HI10 : Hid (w10.ownsRow w.heap.size 2 1 (.slice A5 M.length c5) M.length (rowD M) ∧ RefJ B w10 H (.slice (some ⟨g, 0, none⟩) J.length c0) P (G.put y 2) J ∧ Tur (FootW H (.slice (some ⟨g, 0, none⟩) J.length c0)) w w10) := ⟨rowN_kept HI9.out.1 fun k hk => hb10.block k (HI9.out.1.lt k hk).2, HI9.out.2.1.below hb10, HI9.out.2.2.then (Tur.of_below hb10)⟩
        clear hb10 HFX HI9 l1 l2 m0 mf gf x0
        obtain ⟨l1, l2, m0, mf, gf, hc⟩ := HI10.out.2.1.here (by omega)
        obtain ⟨x0, -, -⟩ := hc i x HX.out
        obtain ⟨-, -, y2⟩ := hc q y HQY.out
        clear hc
        cases r2 with
        | false =>
          have HB := hid (BACK.out w10 M _ (by rw [filter_nextN HX.out, HNF.out]; simp [HM'.out]) HI10.out.1 HI10.out.2.1 HI10.out.2.2)
          have HB1 := hid HB.out.1
          have HB2 := hid HB.out.2
          clear BACK HI10 HB
          go_wp2
          go_roundw
          case rel => exact ⟨i + 1, M, _, HI1.out, rfl, by go_num, HB1, HB2⟩
          case measure => have := HMS.out; simp [intOf]; omega
        | true =>
          have hML : M.length ≤ 100 := by
            rw [HM'.out]
            have := List.length_filter_le (G.newF J y) (J.take i)
            rw [List.length_take] at this
            have := HM.out
            omega
          have hMb : (M.length : Int) ≤ 100 := by omega
          have hws : w.heap.size ≤ w10.heap.size := HI10.out.2.2.size
          obtain ⟨A6, c6, w11, happ, hrow11, hb11⟩ := row_app (x := x) HI10.out.1 (by omega) hws
          have HAPP := hid happ
          have HI11 : Hid (w11.ownsRow w.heap.size 2 1 (.slice A6 (M.length + 1) c6) (M ++ [x]).length (rowD (M ++ [x])) ∧ RefJ B w11 H (.slice (some ⟨g, 0, none⟩) J.length c0) P (G.put y 2) J ∧ Tur (FootW H (.slice (some ⟨g, 0, none⟩) J.length c0)) w w11) := by
            refine ⟨by rw [List.length_append]; exact hrow11, HV.out.belowB HI10.out.2.1 hb11, ?_⟩
            have t := HI10.out.2.2
            exact ⟨hb11.os.trans t.os, hb11.tape.trans t.tape, hb11.output.trans t.output, Nat.le_trans t.size hb11.size, fun k hk hn => (hb11.block k hk).trans (t.kept k hk hn)⟩
          have HB := hid (BACK.out w11 (M ++ [x]) _ (by rw [filter_nextN HX.out, HNF.out, HM'.out]; simp) HI11.out.1 HI11.out.2.1 HI11.out.2.2)
          have HB1 := hid HB.out.1
          have HB2 := hid HB.out.2
          obtain ⟨l1', l2', m0', mf', gf', hc⟩ := HI11.out.2.1.here (by omega)
          obtain ⟨-, -, y2'⟩ := hc q y HQY.out
          clear BACK HI10 HI11 HB hc happ hrow11 hb11 hML
          go_wp2_with (first | (at_builtin; refine wpList_append_eq rfl _ _ _ rfl rfl rfl HAPP.out ?_))
          go_roundw
          case rel => exact ⟨i + 1, M ++ [x], _, HI1.out, rfl, by go_num, HB1, HB2⟩
          case measure => have := HMS.out; simp [intOf]; omega
    · have hii : ¬ (i : Int) < (J.length : Int) := by omega
      obtain ⟨l1, l2, m0', mf, gf, hc⟩ := HI.out.2.1.here (by omega)
      obtain ⟨-, -, y2⟩ := hc q y HQY.out
      have S := HI.out.2.1.setSt HN.out HQY.out 2
      rw [show ((2 : Nat) : Int) = 2 by rfl] at S
      have eM : M = J.filter (G.newF J y) := by rw [HM'.out, List.take_of_length_le (by omega)]
      have FIN : Hid ((wr.setCell ⟨g, q * 3 + 2, none⟩ (.int .i64 2)).ownsRow w.heap.size 2 1 (.slice A5 M.length c5) (J.filter (G.newF J y)).length (rowD (J.filter (G.newF J y))) ∧ RefJ B (wr.setCell ⟨g, q * 3 + 2, none⟩ (.int .i64 2)) H (.slice (some ⟨g, 0, none⟩) J.length c0) P (G.put y 2) J ∧ Tur (FootW H (.slice (some ⟨g, 0, none⟩) J.length c0)) w (wr.setCell ⟨g, q * 3 + 2, none⟩ (.int .i64 2))) := ⟨by have := HI.out.2.1.parKept S.2 HI.out.1; rw [← eM]; exact this, S.1, HI.out.2.2.then S.2⟩
      clear hc hin hi HI S eM HM' m0'
      go_wp2
      go_ret2
      exact .ok rfl HYJ.out HFRY.out ⟨_, rfl, FIN.out.1⟩ FIN.out.2.1 FIN.out.2.2
end Go.Proofs.Ytolfioiccmmifaa
