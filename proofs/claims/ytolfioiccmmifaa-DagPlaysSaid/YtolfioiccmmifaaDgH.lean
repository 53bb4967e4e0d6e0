/- Chapter 12: Fail. -/
import Derived.Test.YtolfioiccmmifaaDgG
namespace Go.Proofs.Ytolfioiccmmifaa
open Go.RowKit
variable {B H : Nat} {w w' : World} {R R' : Nat → Value} {G G' : Gr}
/-- The job has failed, and those of bl that were open. -/
def Gr.failI (G : Gr) (id : Nat) (bl : List Nat) : Gr := ⟨fun x => if x = id ∨ (x ∈ bl ∧ G.st x = 1) then 3 else G.st x, G.X, G.pe⟩
theorem failI_zero (G : Gr) (id : Nat) : G.failI id [] = ⟨upd G.st id 3, G.X, G.pe⟩ := by
  unfold Gr.failI upd
  simp
theorem failI_next {id x : Nat} {bl : List Nat} (h1 : G.st x = 1) : G.failI id (bl ++ [x]) = ⟨upd (G.failI id bl).st x 3, G.X, G.pe⟩ := by
  unfold Gr.failI
  congr 1
  funext z
  unfold upd
  by_cases e : z = x
  · subst e; simp [h1]
  · simp [e]
theorem failI_skip {id x : Nat} {bl : List Nat} (h1 : G.st x ≠ 1) : G.failI id (bl ++ [x]) = G.failI id bl := by
  unfold Gr.failI
  congr 1
  funext z
  by_cases e : z = x
  · subst e; simp [h1]
  · simp [e]
open Classical in
theorem failI_all (ok : G.Ok) (id : Nat) : G.failI id (pick (G.Rch id)) = G.fail id := by
  unfold Gr.failI Gr.fail
  congr 1
  funext z
  have : z ∈ pick (G.Rch id) ↔ G.Rch id z := by
    rw [pick_mem]
    exact ⟨fun q => q.2, fun q => ⟨(ok.rch q).2.2, q⟩⟩
  simp only [this]
noncomputable def Gr.failL (G : Gr) (id : Nat) : List Nat := pick fun c => G.Rch id c ∧ G.st c = 1
def Gr.op1 (G : Gr) (c : Nat) : Bool := decide (G.st c = 1)
theorem failL_eq (G : Gr) (id : Nat) : (pick (G.Rch id)).filter G.op1 = G.failL id := by
  refine pick_of ((pick_sorted _).filter _) fun x => ?_
  rw [List.mem_filter, pick_mem]
  unfold Gr.op1
  rw [decide_eq_true_eq]
  exact ⟨fun q => ⟨q.1.1, q.1.2, q.2⟩, fun q => ⟨⟨q.1, q.2.1⟩, q.2.2⟩⟩
inductive FailP (B H : Nat) (w : World) (R : Nat → Value) (G : Gr) (id : Int) (e : Ending) (w' : World) : Prop
  | none : ¬ G.has id → e = .returned (.tuple #[.slice none 0 0, .int .i64 3]) → Below w.heap.size w w' → FailP B H w R G id e w'
  | state : G.has id → G.st id.toNat ≠ 1 → e = .returned (.tuple #[.slice none 0 0, .int .i64 10]) → Below w.heap.size w w' → FailP B H w R G id e w'
  | ok : G.has id → G.st id.toNat = 1 → (∃ v', e = .returned (.tuple #[v', .int .i64 0]) ∧ w'.ownsRow w.heap.size 2 1 v' (G.failL id.toNat).length (rowD (G.failL id.toNat))) → GrV B w' H R (G.fail id.toNat) → Tur (FootD H R) w w' → FailP B H w R G id e w'
theorem Gr.Ok.lnk3 (h : G.Ok) {id : Nat} (h1 : G.st id = 1) : (⟨upd G.st id 3, G.X, G.pe⟩ : Gr).Lnk ∧ ∀ x, (⟨upd G.st id 3, G.X, G.pe⟩ : Gr).Rch id x ↔ G.Rch id x := by
  have hne : ∀ i, (upd G.st id 3 i ≠ 0 ↔ G.st i ≠ 0) := fun i => by
    unfold upd
    by_cases e : i = id
    · subst e; simp [h1]
    · simp [e]
  have hp : ∀ p c, (⟨upd G.st id 3, G.X, G.pe⟩ : Gr).Par p c ↔ G.Par p c := fun p c => and_congr (hne c) Iff.rfl
  exact ⟨⟨fun i hi => h.rng i ((hne i).1 hi), h.pr, fun p c => (h.chm p c).trans (hp p c).symm, h.chn⟩, fun x => ⟨fun q => q.same fun p c z => (hp p c).1 z, fun q => q.same fun p c z => (hp p c).2 z⟩⟩
set_option maxRecDepth 100000 in
set_option maxHeartbeats 16000000 in
theorem fail_g (h : GrV B w H R G) (ok : G.Ok) (id : Int) : Calls Try.prog 17 #[.pointer (some ⟨H, 0, none⟩), .int .i64 id] w fun e w' => FailP B H w R G id e w' := by
  by_cases hx : G.has id
  case neg =>
    have HA := hid (at_no h id hx)
    have HX := hid hx
    clear h hx ok
    go_enter Try.func17, Try.ntmps17
    go_wp2_with fail
    refine HA.out.mono ?_
    rintro e w1 ⟨rfl, hb1⟩
    have HB1 := hid hb1
    clear hb1 HA
    go_wp2
    go_ret2
    exact .none HX.out rfl HB1.out
  have HHAS := hid hx
  obtain ⟨y, rfl, hy1, hy2, hs⟩ := Gr.has_nat hx
  have HA := hid (at_yes h hy1 hy2 hs)
  have HH := hid h
  have HOK := hid ok
  have HY : Hid (1 ≤ y ∧ y ≤ 100) := ⟨hy1, hy2⟩
  have hyi : (y : Int) < 101 := by omega
  have hlH := h.ltH
  have EY : Hid ((y : Int).toNat = y) := by unfold Hid; omega
  clear h hx ok hy1 hy2 hs
  go_enter Try.func17, Try.ntmps17
  go_wp2_with fail
  refine HA.out.mono ?_
  rintro e w2 ⟨rfl, hb1⟩
  have HB2 := hid hb1
  have HH2 := hid (HH.out.below hb1)
  have c0 := (HH2.out.cells (i := y) (by have := HY.out; omega)).1
  have cf := HH2.out.free
  have hlH2 := HH2.out.ltH
  clear hb1 HA
  by_cases hst : G.st y = 1
  case neg =>
    have F : Hid (G.st (y : Int).toNat ≠ 1) := by rw [EY.out]; exact hst
    have hne : (((G.st y : Nat) : Int) != 1) = true := by simp; omega
    generalize ((G.st y : Nat) : Int) = s at *
    clear hst
    go_wp2
    go_ret2
    exact .state HHAS.out F.out rfl HB2.out
  rw [hst] at c0
  have HST := hid hst
  have hset := HH2.out.setSt (i := y) (by have := HY.out; omega) 3
  have HSET : Hid (GrV B (w2.setCell ⟨H, y * 4, none⟩ (.int .i64 3)) H R ⟨upd G.st y 3, G.X, G.pe⟩) := hset
  have HT0 : Hid (Tur (FootD H R) w (w2.setCell ⟨H, y * 4, none⟩ (.int .i64 3))) := (Tur.of_below HB2.out).then tur_H
  obtain ⟨hlnk, hrch⟩ := HOK.out.lnk3 hst
  have HLNK := hid hlnk
  have HRCH : Hid (pick ((⟨upd G.st y 3, G.X, G.pe⟩ : Gr).Rch y) = pick (G.Rch y)) := pick_congr fun x _ => hrch x
  clear hst hset HB2 HH2 hlnk hrch
  go_upto_region 8 with (fail)
  refine wp_name ?_
  intro w3 hw3
  rw [← hw3] at HSET HT0
  have HBE := hid (below_g HSET.out HLNK.out (id := y) HY.out.2)
  clear hw3 c0 cf HLNK
  go_wp2_with fail
  refine HBE.out.mono ?_
  rintro e w4 ⟨⟨v4, rfl, hrow4⟩, hb4⟩
  rw [HRCH.out] at hrow4
  obtain ⟨bl, hbl⟩ : ∃ bl, bl = pick (G.Rch y) := ⟨_, rfl⟩
  rw [← hbl] at hrow4
  have HBL := hid hbl
  have hbn : bl.length ≤ 100 := by rw [hbl]; exact len100 (nodup_of_lt (pick_sorted _)) fun z hz => (HOK.out.rch (pick_mem.1 hz).2).2
  have HBN := hid hbn
  obtain ⟨A, cap, rfl⟩ := row_shape hrow4
  have hw3s : w.heap.size ≤ w3.heap.size := HT0.out.size
  have HR4 : Hid (w4.ownsRow w.heap.size 2 1 (.slice A bl.length cap) bl.length (rowD bl)) := row_base hrow4 hw3s
  have HG4 : Hid (GrV B w4 H R (G.failI y (bl.take 0))) := by rw [List.take_zero, failI_zero]; exact HSET.out.below hb4
  have HT4 := hid (HT0.out.then (Tur.of_below hb4))
  clear hrow4 hb4 HBE HSET HT0 HRCH hbl hbn hw3s
  go_wp2_with fail
  go_loopw [7, 27] (fun ov iv wr => ∃ (i : Nat) (v : Value), i ≤ bl.length ∧ v = ov ∧ iv = .int .i64 i ∧ Hid (GrV B wr H R (G.failI y (bl.take i)) ∧ Tur (FootD H R) w wr ∧ wr.ownsRow w.heap.size 2 1 v ((bl.take i).filter G.op1).length (rowD ((bl.take i).filter G.op1)) ∧ wr.ownsRow w.heap.size 2 1 (.slice A bl.length cap) bl.length (rowD bl) ∧ ∀ b, v.ownBlock = some b → (Value.slice A bl.length cap).ownBlock ≠ some b)) (fun _ iv _ => bl.length - (intOf iv).toNat)
  case atStart => exact ⟨0, _, Nat.zero_le _, rfl, rfl, hid ⟨HG4.out, HT4.out, World.ownsRow_nil _ _ _ _, HR4.out, fun b hb => nomatch hb⟩⟩
  case round =>
    clear HG4 HT4 HR4
    obtain ⟨i, v, hi, rfl, rfl, HI⟩ := hrel
    by_cases hin : i < bl.length
    · have HK1 : Hid (i + 1 ≤ bl.length) := hin
      have HMS : Hid (bl.length - (i + 1) < bl.length - i) := by unfold Hid; omega
      have hii : (i : Int) < (bl.length : Int) := by omega
      have hib : (i : Int) ≤ 100 := by have := HBN.out; omega
      obtain ⟨hG, hT, hO, hB, hap⟩ := HI.out
      obtain ⟨g4, x, rfl, hg4, cx, hm, hx⟩ := row_elem hB hin
      have hr : G.Rch y x := by rw [HBL.out] at hm; exact (pick_mem.1 hm).2
      have hxr := (HOK.out.rch hr).2
      have hxi : (x : Int) < 101 := by omega
      have hxy : x ≠ y := fun e => HOK.out.acy y (by rw [e] at hr; exact hr)
      have hnot := take_not (nodup_of_lt (by rw [HBL.out]; exact pick_sorted _ : bl.Pairwise (· < ·))) hx
      have hsx : (G.failI y (bl.take i)).st x = G.st x := by
        show (if _ then _ else _) = _
        rw [if_neg]
        rintro (q | q)
        · exact hxy q
        · exact hnot q.1
      obtain ⟨e0, -, -, -⟩ := hG.cells (i := x) (by omega)
      rw [hsx] at e0
      have ef := hG.free
      have hlq := hG.ltH
      have HT := hid (take_next hx)
      have HF := hid (filter_next (q := G.op1) hx)
      have HGG := hid hG
      have HTT := hid hT
      have HOO := hid hO
      have HBB := hid hB
      have HAP := hid hap
      have HXR := hid hxr
      clear hG hT hO hB hap hm hx hr hxr hxy hnot hsx HI hi hin
      by_cases s1 : G.st x = 1
      · rw [s1] at e0
        have HF2 : Hid ((bl.take (i + 1)).filter G.op1 = (bl.take i).filter G.op1 ++ [x]) := by have := HF.out; unfold Hid; simpa [Gr.op1, s1] using this
        have hset := HGG.out.setSt (i := x) (by have := HXR.out; omega) 3
        have HSET : Hid (GrV B (wr.setCell ⟨H, x * 4, none⟩ (.int .i64 3)) H R (G.failI y (bl.take (i + 1)))) := by rw [HT.out, failI_next s1]; exact hset
        have HT5 : Hid (Tur (FootD H R) w (wr.setCell ⟨H, x * 4, none⟩ (.int .i64 3))) := HTT.out.then tur_H
        have hnH : ∀ b, w.heap.size ≤ b → b ≠ H := fun b hb e => by omega
        have HO5 : Hid ((wr.setCell ⟨H, x * 4, none⟩ (.int .i64 3)).ownsRow w.heap.size 2 1 v ((bl.take i).filter G.op1).length (rowD ((bl.take i).filter G.op1))) := rowN_kept HOO.out fun b hb => heap_setCell_other wr ⟨H, x * 4, none⟩ b _ (hnH b (HOO.out.lt b hb).1)
        have HB5 : Hid ((wr.setCell ⟨H, x * 4, none⟩ (.int .i64 3)).ownsRow w.heap.size 2 1 (.slice (some ⟨g4, 0, none⟩) bl.length cap) bl.length (rowD bl)) := rowN_kept HBB.out fun b hb => heap_setCell_other wr ⟨H, x * 4, none⟩ b _ (hnH b (HBB.out.lt b hb).1)
        clear hset hnH s1 HGG HTT HOO HBB
        go_upto_region 13 with (fail)
        refine wp_name ?_
        intro w6 hw6
        rw [← hw6] at HSET HT5 HO5 HB5
        clear hw6 e0 ef cx
        obtain ⟨L, hL⟩ : ∃ L, L = (bl.take i).filter G.op1 := ⟨_, rfl⟩
        have hLX : L.length ≤ 100 := by
          have h1 := List.length_filter_le G.op1 (bl.take i)
          rw [List.length_take] at h1
          have := HBN.out
          rw [hL]
          omega
        rw [← hL] at HO5 HF2
        obtain ⟨A7, cap7, rfl⟩ := row_shape HO5.out
        have ha : (w6.alloc (.cells #[.int .i64 (x : Int)] 2)).heap[w6.heap.size]? = some (.cells #[.int .i64 (x : Int)] 2 (0, 0)) := alloc_at _ _
        have hws : w.heap.size ≤ w6.heap.size := HT5.out.size
        obtain ⟨A8, cap8, w8, happ, hown, hG8, hat8⟩ := app_src (cap2 := 1) (HO5.out.alloc (.cells #[.int .i64 (x : Int)] 2)) (slz_one ha) (by omega) (by simp; omega)
        have HT8 : Hid (Tur (FootD H R) w w8) := by
          refine (HT5.out.then (Tur.of_below (w' := w6.alloc (.cells #[.int .i64 (x : Int)] 2)) (by repeat (first | with_reducible assumption | with_reducible exact Below.refl _ _ | with_reducible refine Below.drew ?_ | with_reducible refine below_drewN ?_ _ | with_reducible refine below_alloc ?_ _ | with_reducible refine Below.alloc ?_ (by first | omega | (simp; done) | (simp; omega)) _ | with_reducible refine Below.setCell ?_ (by first | omega | (simp; done) | (simp; omega)) _ | with_reducible refine below_setRow ?_ (by first | omega | (simp; done) | (simp; omega)) _)))).trans (Tur.of_grown (F := fun b => (Value.slice A7 L.length cap7).ownBlock = some b) hG8 (fun g hg => .inl hg)) (fun b hb => .inr ?_)
          exact (HO5.out.lt b hb).1
        have HG8 : Hid (GrV B w8 H R (G.failI y (bl.take (i + 1)))) := by
          refine (HSET.out.below (w' := w6.alloc (.cells #[.int .i64 (x : Int)] 2)) (by repeat (first | with_reducible assumption | with_reducible exact Below.refl _ _ | with_reducible refine Below.drew ?_ | with_reducible refine below_drewN ?_ _ | with_reducible refine below_alloc ?_ _ | with_reducible refine Below.alloc ?_ (by first | omega | (simp; done) | (simp; omega)) _ | with_reducible refine Below.setCell ?_ (by first | omega | (simp; done) | (simp; omega)) _ | with_reducible refine below_setRow ?_ (by first | omega | (simp; done) | (simp; omega)) _))).at fun k hk => hG8.block k ?_ (fun e => ?_)
          · have := (HSET.out.foot hk).2; simp; omega
          · have h1 := (HO5.out.lt k e.symm).1
            have h2 := (HH.out.foot hk).2
            omega
        have HB8 : Hid (w8.ownsRow w.heap.size 2 1 (.slice (some ⟨g4, 0, none⟩) bl.length cap) bl.length (rowD bl)) := grown_row (HB5.out.alloc _) hG8 (fun g hg e => HAP.out g e hg)
        have HAP8 : Hid (∀ b, (Value.slice A8 (L.length + 1) cap8).ownBlock = some b → (Value.slice (some ⟨g4, 0, none⟩) bl.length cap).ownBlock ≠ some b) := fun b hb e => by
          rcases hat8 b hb with q | q
          · exact HAP.out b q e
          · have := (HB5.out.lt b e).2
            simp at q
            omega
        have HAPP := hid happ
        rw [toZ_snoc] at hown
        have HO8 : Hid (w8.ownsRow w.heap.size 2 1 (.slice A8 (L.length + 1) cap8) (L ++ [x]).length (rowD (L ++ [x]))) := by rw [List.length_append]; exact hown
        clear happ hown hG8 hat8 ha hws hL HSET HT5 HO5 HB5 HAP hLX
        go_wp2_with (first | (at_builtin; refine wpList_append_eq rfl _ _ _ rfl rfl rfl HAPP.out ?_))
        go_roundw
        case rel =>
          refine ⟨i + 1, _, HK1.out, rfl, by go_num, hid ⟨HG8.out, HT8.out, ?_, HB8.out, HAP8.out⟩⟩
          rw [HF2.out]
          exact HO8.out
        case measure => have := HMS.out; simp [intOf]; omega
      · have hne : (((G.st x : Nat) : Int) == 1) = false := by simp; omega
        have HF2 : Hid ((bl.take (i + 1)).filter G.op1 = (bl.take i).filter G.op1) := by have := HF.out; unfold Hid; simpa [Gr.op1, s1] using this
        have HG2 : Hid (GrV B wr H R (G.failI y (bl.take (i + 1)))) := by rw [HT.out, failI_skip s1]; exact HGG.out
        generalize ((G.st x : Nat) : Int) = s at *
        clear s1
        go_wp2
        go_roundw
        case rel => exact ⟨i + 1, v, HK1.out, rfl, by go_num, hid ⟨HG2.out, HTT.out, by rw [HF2.out]; exact HOO.out, HBB.out, HAP.out⟩⟩
        case measure => have := HMS.out; simp [intOf]; omega
    · obtain rfl : i = bl.length := by omega
      obtain ⟨hG, hT, hO, -, -⟩ := HI.out
      rw [List.take_length] at hG hO
      rw [HBL.out, failI_all HOK.out] at hG
      rw [HBL.out, failL_eq G] at hO
      have HF : Hid (FailP B H w R G (y : Int) (.returned (.tuple #[v, .int .i64 0])) wr) := by
        refine .ok HHAS.out (by rw [EY.out]; exact HST.out) ⟨v, rfl, ?_⟩ ?_ hT
        · rw [EY.out]; exact hO
        · rw [EY.out]; exact hG
      have hii : ¬ (bl.length : Int) < (bl.length : Int) := by omega
      clear hG hT hO HI hi hin
      go_wp2
      go_ret2
      exact HF.out
end Go.Proofs.Ytolfioiccmmifaa
