/- Chapter 12: Done. -/
import Derived.Test.YtolfioiccmmifaaDgF
namespace Go.Proofs.Ytolfioiccmmifaa
open Go.RowKit
variable {B H : Nat} {w w' : World} {R R' : Nat → Value} {G G' : Gr}
/-- The first i children have lost a parent that isn't done. -/
def Gr.doneI (G : Gr) (id i : Nat) : Gr := ⟨upd G.st id 2, G.X, fun c => if c ∈ (G.ch id).take i then G.pe c - 1 else G.pe c⟩
theorem doneI_zero (G : Gr) (id : Nat) : G.doneI id 0 = ⟨upd G.st id 2, G.X, G.pe⟩ := by simp [Gr.doneI]
theorem doneI_all (G : Gr) (id : Nat) : G.doneI id (G.ch id).length = G.done id := by
  unfold Gr.doneI Gr.done
  rw [List.take_length]
theorem take_not {l : List Nat} {i x : Nat} (hn : l.Nodup) (h : l[i]? = some x) : x ∉ l.take i := fun hm => by
  obtain ⟨hi, hx⟩ := getq h
  obtain ⟨j, hj, e⟩ := List.mem_iff_getElem.1 hm
  rw [List.getElem_take] at e
  rw [List.length_take] at hj
  have := (List.getElem_inj hn).1 (e.trans hx.symm)
  omega
theorem doneI_next {id i x : Nat} (hn : (G.ch id).Nodup) (h : (G.ch id)[i]? = some x) : G.doneI id (i + 1) = ⟨upd G.st id 2, G.X, upd (G.doneI id i).pe x (G.pe x - 1)⟩ ∧ (G.doneI id i).pe x = G.pe x := by
  have h0 := take_not hn h
  refine ⟨?_, if_neg h0⟩
  unfold Gr.doneI
  rw [take_next h]
  congr 1
  funext c
  unfold upd
  by_cases e : c = x
  · subst e; simp
  · simp [e]
/-- The children that are free now. -/
def Gr.dnow (G : Gr) (c : Nat) : Bool := decide (G.st c = 1 ∧ G.pe c = 1)
noncomputable def Gr.doneL (G : Gr) (id : Nat) : List Nat := pick fun c => c ∈ G.ch id ∧ G.dnow c = true
inductive DoneP (B H : Nat) (w : World) (R : Nat → Value) (G : Gr) (id : Int) (e : Ending) (w' : World) : Prop
  | none : ¬ G.has id → e = .returned (.tuple #[.slice none 0 0, .int .i64 3]) → Below w.heap.size w w' → DoneP B H w R G id e w'
  | state : G.has id → ¬ G.freeZ id → e = .returned (.tuple #[.slice none 0 0, .int .i64 10]) → Below w.heap.size w w' → DoneP B H w R G id e w'
  | ok : G.freeZ id → (∃ v', e = .returned (.tuple #[v', .int .i64 0]) ∧ w'.ownsRow w.heap.size 2 1 v' (G.doneL id.toNat).length (rowD (G.doneL id.toNat))) → GrV B w' H R (G.done id.toNat) → Tur (FootD H R) w w' → DoneP B H w R G id e w'
theorem Gr.Ok.peb (h : G.Ok) {c : Nat} (hc : G.st c ≠ 0) : 0 ≤ G.pe c ∧ G.pe c ≤ 100 := by
  rw [h.pen c hc]
  have := List.countP_le_length (p := fun p => decide (G.st p ≠ 2)) (l := G.pa c)
  have := h.pal c
  omega
theorem filter_next {l : List Nat} {i x : Nat} {q : Nat → Bool} (h : l[i]? = some x) : (l.take (i + 1)).filter q = (l.take i).filter q ++ (if q x then [x] else []) := by
  rw [take_next h, List.filter_append]
  cases hq : q x <;> simp [hq]
set_option maxRecDepth 100000 in
set_option maxHeartbeats 16000000 in
theorem done_g (h : GrV B w H R G) (ok : G.Ok) (id : Int) : Calls Try.prog 15 #[.pointer (some ⟨H, 0, none⟩), .int .i64 id] w fun e w' => DoneP B H w R G id e w' := by
  by_cases hx : G.has id
  case neg =>
    have HA := hid (at_no h id hx)
    have HX := hid hx
    clear h hx ok
    go_enter Try.func15, Try.ntmps15
    go_wp2_with fail
    refine HA.out.mono ?_
    rintro e w1 ⟨rfl, hb1⟩
    have HB1 := hid hb1
    clear hb1 HA
    go_wp2
    go_ret2
    exact .none HX.out rfl HB1.out
  have HHAS := hid hx
  obtain ⟨y, rfl, hy1, hy2, hs⟩ := Gr.has_nat hx
  have HA := hid (at_yes h hy1 hy2 hs)
  have HH := hid h
  have HOK := hid ok
  have HY : Hid (1 ≤ y ∧ y ≤ 100) := ⟨hy1, hy2⟩
  have hyi : (y : Int) < 101 := by omega
  have hlH := h.ltH
  clear h hx ok hy1 hy2 hs
  go_enter Try.func15, Try.ntmps15
  go_wp2_with fail
  refine HA.out.mono ?_
  rintro e w1 ⟨rfl, hb1⟩
  have HB1 := hid hb1
  have HH1 := hid (HH.out.below hb1)
  have HFR := hid (free_g HH1.out (y : Int))
  clear hb1 HA
  go_wp2_with fail
  refine HFR.out.mono ?_
  rintro e w2 ⟨rfl, hb2⟩
  have HB2 := hid (HB1.out.trans (hb2.mono HB1.out.size))
  have HH2 := hid (HH1.out.below hb2)
  clear hb2 HFR HB1 HH1
  cases hf : G.freeB (y : Int) with
  | false =>
    have F : Hid (¬ G.freeZ (y : Int)) := of_decide_eq_false hf
    clear hf
    go_wp2
    go_ret2
    exact .state HHAS.out F.out rfl HB2.out
  | true =>
    have hfz : G.freeZ (y : Int) := of_decide_eq_true hf
    have HFZ := hid hfz
    have hst : G.st y = 1 := by
      have := hfz.2.1
      rw [show ((y : Int).toNat) = y by omega] at this
      exact this
    have HST := hid hst
    obtain ⟨c0, -, c2, -⟩ := HH2.out.cells (i := y) (by have := HY.out; omega)
    have cf := HH2.out.free
    have hlH2 := HH2.out.ltH
    have hset := HH2.out.setSt (i := y) (by have := HY.out; omega) 2
    have HSET : Hid (GrV B (w2.setCell ⟨H, y * 4, none⟩ (.int .i64 2)) H R (G.doneI y 0)) := by rw [doneI_zero]; exact hset
    have HT0 : Hid (Tur (FootD H R) w (w2.setCell ⟨H, y * 4, none⟩ (.int .i64 2))) := (Tur.of_below HB2.out).then tur_H
    obtain ⟨A, cap, eA⟩ := row_shape (HH2.out.rw (2 * y + 1) (by have := HY.out; omega))
    have HEA := hid eA
    rw [eA] at c2
    have hnl := HOK.out.chl y
    obtain ⟨n, hn⟩ : ∃ n, n = (G.X (2 * y + 1)).length := ⟨_, rfl⟩
    rw [← hn] at c2 HEA
    have HNL : Hid (n = (G.ch y).length) := hn
    have hnb : n ≤ 100 := by rw [hn]; exact hnl
    have HNB := hid hnb
    clear hf hfz hst hset HB2 HH2 eA hnl hn hnb
    go_upto_region 8 with (fail)
    refine wp_name ?_
    intro w3 hw3
    rw [← hw3] at HSET HT0
    obtain ⟨-, -, d2, -⟩ := HSET.out.cells (i := y) (by have := HY.out; omega)
    rw [HEA.out] at d2
    have hl3 := HSET.out.ltH
    clear hw3 c0 c2 cf
    go_wp2_with fail
    go_loopw [7, 27] (fun ov iv wr => ∃ (i : Nat) (v : Value), i ≤ n ∧ v = ov ∧ iv = .int .i64 i ∧ Hid (GrV B wr H R (G.doneI y i) ∧ Tur (FootD H R) w wr ∧ wr.ownsRow w.heap.size 2 1 v (((G.ch y).take i).filter G.dnow).length (rowD (((G.ch y).take i).filter G.dnow)))) (fun _ iv _ => n - (intOf iv).toNat)
    case atStart => exact ⟨0, _, Nat.zero_le _, rfl, rfl, hid ⟨HSET.out, HT0.out, World.ownsRow_nil _ _ _ _⟩⟩
    case round =>
      clear HSET HT0 d2
      obtain ⟨i, v, hi, rfl, rfl, HI⟩ := hrel
      by_cases hin : i < n
      · have HK1 : Hid (i + 1 ≤ n) := hin
        have HMS : Hid (n - (i + 1) < n - i) := by unfold Hid; omega
        have hii : (i : Int) < (n : Int) := by omega
        have hib : (i : Int) ≤ 100 := by have := HNB.out; omega
        have hrr := HI.out.1.rw (2 * y + 1) (by have := HY.out; omega)
        rw [HEA.out] at hrr
        have hrr2 : wr.ownsRow B 2 1 (.slice A n cap) n (rowD (G.ch y)) := by
          have e : (G.doneI y i).X (2 * y + 1) = G.ch y := rfl
          rw [e, ← HNL.out] at hrr; exact hrr
        obtain ⟨g4, x, rfl, hg4, cx, hm, hx⟩ := row_elem hrr2 (by rw [← HNL.out]; exact hin)
        have hpar := (HOK.out.chm _ _).1 hm
        have hxr := (HOK.out.chr hm).1
        have hxy : x ≠ y := fun e => HOK.out.acy y (by rw [e] at hpar; exact .one hpar)
        have hxi : (x : Int) < 101 := by omega
        obtain ⟨hdn, hdp⟩ := doneI_next (HOK.out.chn y) hx
        have hpb := HOK.out.peb hpar.1
        obtain ⟨-, -, -, e3⟩ := HI.out.1.cells (i := x) (by omega)
        rw [hdp] at e3
        have ef := HI.out.1.free
        have hlq := HI.out.1.ltH
        obtain ⟨p, hp⟩ : ∃ p, p = G.pe x := ⟨_, rfl⟩
        rw [← hp] at e3 hpb hdn
        have iw : IntKind.i64.wrap (p - 1) = p - 1 := IntWalk.i64_in _ (by omega)
        have hset := HI.out.1.setPe (i := x) (by omega) (p - 1)
        have HG2 : Hid (GrV B (wr.setCell ⟨H, x * 4 + 3, none⟩ (.int .i64 (p - 1))).drew H R (G.doneI y (i + 1))) := by
          rw [hdn]; exact hset.below (by repeat (first | with_reducible assumption | with_reducible exact Below.refl _ _ | with_reducible refine Below.drew ?_ | with_reducible refine below_drewN ?_ _ | with_reducible refine below_alloc ?_ _ | with_reducible refine Below.alloc ?_ (by first | omega | (simp; done) | (simp; omega)) _ | with_reducible refine Below.setCell ?_ (by first | omega | (simp; done) | (simp; omega)) _ | with_reducible refine below_setRow ?_ (by first | omega | (simp; done) | (simp; omega)) _))
        have HT2 : Hid (Tur (FootD H R) w (wr.setCell ⟨H, x * 4 + 3, none⟩ (.int .i64 (p - 1))).drew) := (HI.out.2.1.then tur_H).then (Tur.drew_ _ _)
        have HO2 : Hid ((wr.setCell ⟨H, x * 4 + 3, none⟩ (.int .i64 (p - 1))).drew.ownsRow w.heap.size 2 1 v (((G.ch y).take i).filter G.dnow).length (rowD (((G.ch y).take i).filter G.dnow))) := by
          refine rowN_kept HI.out.2.2 fun b hb => ?_
          have := (HI.out.2.2.lt b hb).1
          exact heap_setCell_other wr ⟨H, x * 4 + 3, none⟩ b _ (by show b ≠ H; omega)
        have HNX : Hid (((G.ch y).take (i + 1)).filter G.dnow = ((G.ch y).take i).filter G.dnow ++ (if G.dnow x then [x] else [])) := filter_next hx
        have HFB : Hid ((G.doneI y (i + 1)).freeB (x : Int) = G.dnow x) := by
          unfold Hid Gr.freeB Gr.dnow
          rw [decide_eq_decide]
          have e1 : (x : Int).toNat = x := by omega
          have e2 : (G.doneI y (i + 1)).st x = G.st x := upd_ne _ _ hxy
          have e3 : (G.doneI y (i + 1)).pe x = p - 1 := by rw [hdn]; exact upd_same _ _ _
          unfold Gr.freeZ Gr.has
          rw [e1, e2, e3, ← hp]
          constructor
          · rintro ⟨-, q1, q2⟩
            exact ⟨q1, by omega⟩
          · rintro ⟨q1, q2⟩
            exact ⟨⟨⟨by omega, by omega⟩, by omega⟩, q1, by omega⟩
        have HLX : Hid ((((G.ch y).take i).filter G.dnow).length ≤ 100) := by
          have h1 := List.length_filter_le G.dnow ((G.ch y).take i)
          have h2 := HOK.out.chl y
          rw [List.length_take] at h1
          unfold Hid
          omega
        clear hrr hrr2 hx hin hi hm hpar hxr hxy hdn hdp hset hp
        go_upto_region 11 with (fail)
        go_region
        refine then_name ?_
        intro w5 hw5
        rw [← hw5] at HG2 HT2 HO2
        have HFR := hid (free_g HG2.out (x : Int))
        clear hw5 e3 ef HI iw hpb
        go_wp2_with fail
        refine HFR.out.mono ?_
        rintro e w6 ⟨rfl, hb6⟩
        rw [HFB.out]
        have HG6 := hid (HG2.out.below hb6)
        have HT6 := hid (HT2.out.then (Tur.of_below hb6))
        have HO6 : Hid (w6.ownsRow w.heap.size 2 1 v (((G.ch y).take i).filter G.dnow).length (rowD (((G.ch y).take i).filter G.dnow))) := rowN_kept HO2.out fun b hb => hb6.block b (HO2.out.lt b hb).2
        clear hb6 HG2 HT2 HO2 HFR HFB
        cases hd : G.dnow x with
        | false =>
          rw [hd] at HNX
          have HNX2 : Hid (((G.ch y).take (i + 1)).filter G.dnow = ((G.ch y).take i).filter G.dnow) := by have := HNX.out; unfold Hid; simpa using this
          clear hd HNX
          go_wp2
          go_roundw
          case rel => exact ⟨i + 1, v, HK1.out, rfl, by go_num, hid ⟨HG6.out, HT6.out, by rw [HNX2.out]; exact HO6.out⟩⟩
          case measure => have := HMS.out; simp [intOf]; omega
        | true =>
          rw [hd] at HNX
          have HNX2 : Hid (((G.ch y).take (i + 1)).filter G.dnow = ((G.ch y).take i).filter G.dnow ++ [x]) := by have := HNX.out; unfold Hid; simpa using this
          clear hd HNX
          obtain ⟨L, hL⟩ : ∃ L, L = ((G.ch y).take i).filter G.dnow := ⟨_, rfl⟩
          rw [← hL] at HO6 HNX2 HLX
          obtain ⟨A7, cap7, rfl⟩ := row_shape HO6.out
          have ha : (w6.alloc (.cells #[.int .i64 (x : Int)] 2)).heap[w6.heap.size]? = some (.cells #[.int .i64 (x : Int)] 2 (0, 0)) := alloc_at _ _
          have hws : w.heap.size ≤ w6.heap.size := HT6.out.size
          obtain ⟨A8, cap8, w8, happ, hown, hG8, hat8⟩ := app_src (cap2 := 1) (HO6.out.alloc (.cells #[.int .i64 (x : Int)] 2)) (slz_one ha) (by have := HLX.out; omega) (by simp; omega)
          have HT8 : Hid (Tur (FootD H R) w w8) := by
            refine (HT6.out.then (Tur.of_below (w' := w6.alloc (.cells #[.int .i64 (x : Int)] 2)) (by repeat (first | with_reducible assumption | with_reducible exact Below.refl _ _ | with_reducible refine Below.drew ?_ | with_reducible refine below_drewN ?_ _ | with_reducible refine below_alloc ?_ _ | with_reducible refine Below.alloc ?_ (by first | omega | (simp; done) | (simp; omega)) _ | with_reducible refine Below.setCell ?_ (by first | omega | (simp; done) | (simp; omega)) _ | with_reducible refine below_setRow ?_ (by first | omega | (simp; done) | (simp; omega)) _)))).trans (Tur.of_grown (F := fun b => (Value.slice A7 L.length cap7).ownBlock = some b) hG8 (fun g hg => .inl hg)) (fun b hb => .inr ?_)
            exact (HO6.out.lt b hb).1
          have HG8 : Hid (GrV B w8 H R (G.doneI y (i + 1))) := by
            refine (HG6.out.below (w' := w6.alloc (.cells #[.int .i64 (x : Int)] 2)) (by repeat (first | with_reducible assumption | with_reducible exact Below.refl _ _ | with_reducible refine Below.drew ?_ | with_reducible refine below_drewN ?_ _ | with_reducible refine below_alloc ?_ _ | with_reducible refine Below.alloc ?_ (by first | omega | (simp; done) | (simp; omega)) _ | with_reducible refine Below.setCell ?_ (by first | omega | (simp; done) | (simp; omega)) _ | with_reducible refine below_setRow ?_ (by first | omega | (simp; done) | (simp; omega)) _))).at fun k hk => hG8.block k ?_ (fun e => ?_)
            · have := (HG6.out.foot hk).2; simp; omega
            · have h1 := (HO6.out.lt k e.symm).1
              have h2 := (HH.out.foot hk).2
              omega
          have HAPP := hid happ
          rw [toZ_snoc] at hown
          have HO8 : Hid (w8.ownsRow w.heap.size 2 1 (.slice A8 (L ++ [x]).length cap8) (L ++ [x]).length (rowD (L ++ [x]))) := by rw [List.length_append]; exact hown
          clear happ hown hG8 hat8 ha hws hL HG6 HT6 HO6
          go_wp2_with (first | (at_builtin; refine wpList_append_eq rfl _ _ _ rfl rfl rfl HAPP.out ?_))
          go_roundw
          case rel =>
            refine ⟨i + 1, _, HK1.out, rfl, by go_num, hid ⟨HG8.out, HT8.out, ?_⟩⟩
            rw [HNX2.out]
            have := HO8.out
            rw [show (L ++ [x]).length = L.length + 1 by simp] at this ⊢
            exact this
          case measure => have := HMS.out; simp [intOf]; omega
      · obtain rfl : i = n := by omega
        have hfull : ((G.ch y).take i).filter G.dnow = (G.ch y).filter G.dnow := by rw [HNL.out, List.take_length]
        have hG := HI.out.1
        have hT := HI.out.2.1
        have hO := HI.out.2.2
        rw [HNL.out, doneI_all] at hG
        rw [hfull] at hO
        have hnd : ((G.ch y).filter G.dnow).Nodup := (HOK.out.chn y).filter _
        have hmem : ∀ x, x ∈ (G.ch y).filter G.dnow ↔ x ≤ 100 ∧ (x ∈ G.ch y ∧ G.dnow x = true) := fun x => by
          rw [List.mem_filter]
          exact ⟨fun q => ⟨(HOK.out.chr q.1).1.2, q⟩, fun q => q.2⟩
        have e1 := sort_pick hnd hmem
        obtain ⟨L, hL⟩ : ∃ L, L = (G.ch y).filter G.dnow := ⟨_, rfl⟩
        have hLl : L.length ≤ 100 := by rw [hL]; exact len100 hnd (fun x hx => (HOK.out.chr (List.mem_filter.1 hx).1).1)
        rw [← hL] at hO e1
        have HE : Hid (L.length = (G.doneL y).length) := by
          have := congrArg List.length e1
          unfold Hid
          simpa [Gr.doneL] using this
        have HE1 : Hid (((toZ L).mergeSort fun x y => decide (x ≤ y)) = toZ (G.doneL y)) := e1
        have HSO := hid (sort_row hO (by omega))
        have HG := hid hG
        have HT := hid hT
        have HO := hid hO
        have hii : ¬ (i : Int) < (i : Int) := by omega
        clear hfull hG hT hO hnd hmem e1 hL hLl HI hi hin
        go_wp2_with fail
        refine HSO.out.mono ?_
        rintro e w9 ⟨rfl, hrow, hg⟩
        have HF : Hid (DoneP B H w R G (y : Int) (.returned (.tuple #[v, .int .i64 0])) w9) := by
          have ey : (y : Int).toNat = y := by omega
          refine .ok HFZ.out ⟨v, rfl, ?_⟩ ?_ ?_
          · rw [ey, ← HE.out, rowD, ← HE1.out]
            exact hrow
          · rw [ey]
            refine HG.out.at fun k hk => hg.block k (HG.out.foot hk).2 (fun e => ?_)
            have h1 := (HO.out.lt k e.symm).1
            have h2 := (HH.out.foot hk).2
            omega
          · refine HT.out.trans (Tur.of_grown (F := fun b => v.ownBlock = some b) hg (fun g hg => .inl hg)) (fun b hb => .inr ?_)
            exact (HO.out.lt b hb).1
        clear hrow hg HSO
        go_wp2
        go_ret2
        exact HF.out
end Go.Proofs.Ytolfioiccmmifaa
