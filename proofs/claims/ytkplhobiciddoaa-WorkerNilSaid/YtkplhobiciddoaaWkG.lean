/- Chapter 19's Live: slices.DeleteFunc of the nodes that are not live. -/
import Derived.Test.YtkplhobiciddoaaWkF
import Derived.Deep.DeepCutAuto
import Derived.Deep.CutBlock
namespace Go.Proofs.Ytkplhobiciddoaa
open Go.RowKit Go.Maps Go.WideShapes
abbrev lives (l : List Nd) : List Nd := l.filter (·.live)
theorem lives_take {l : List Nd} {j : Nat} (h : j < l.length) : lives (l.take (j + 1)) = lives (l.take j) ++ (if l[j].live = true then [l[j]] else []) := by
  rw [List.take_add_one, List.getElem?_eq_getElem h]
  unfold lives
  rw [List.filter_append]
  congr 1
  by_cases e : l[j].live = true <;> simp [e]
theorem ownsRow_below {B B' n z : Nat} {w w' : World} {v : Value} {t : TypeId} {xs : List Value} (h : w.ownsRow B t z v n xs) (hb : Below B' w w') (hB : w.heap.size ≤ B') : w'.ownsRow B t z v n xs :=
  ownsRow_at h (fun g hg => hb.block g (Nat.lt_of_lt_of_le (h.lt g hg).2 hB))
theorem rowN_at {B n g cap : Nat} {w : World} {l : List Nd} (h : w.ownsRow B 34 8 (.slice (some ⟨g, 0, none⟩) n cap) n (flatN l)) (hn : l.length = n) (h0 : 0 < n) :
    g < w.heap.size ∧ (∀ i, w.frozen? ⟨g, i, none⟩ = false) ∧ ∀ j, (hj : j < l.length) → ∀ c, c < 8 → w.cell? ⟨g, j * 8 + c, none⟩ = (cellsN l[j])[c]? := by
  obtain ⟨g', cap', e, -, h1, -, h2, h3⟩ := rowN_cells h hn.symm (by omega)
  injection e with e1 e2 e3
  injection e1 with e1
  injection e1 with e1
  subst e1
  exact ⟨h1, h2, h3⟩
/-- The tail is cleared, the head handed back. -/
theorem row_head {B g n cap i : Nat} {w : World} {ms : List Nd} (h : w.ownsRow B 34 8 (.slice (some ⟨g, 0, none⟩) n cap) n (flatN ms)) (hi : i < n) (hn : ms.length = n) (c : Nat) (ty : TypeId) :
    (Builtin.clear_ #[44] ty #[.slice (some ⟨g, i * 8, none⟩) (n - i) c]).run Try.prog w = .ok (.tuple #[]) (w.setCells g (i * 8) (Builtin.zeroCells (ndV zeroN).cells (n - i)).toList) ∧
      (w.setCells g (i * 8) (Builtin.zeroCells (ndV zeroN).cells (n - i)).toList).ownsRow B 34 8 (.slice (some ⟨g, 0, none⟩) i cap) i (flatN (ms.take i)) ∧ Below B w (w.setCells g (i * 8) (Builtin.zeroCells (ndV zeroN).cells (n - i)).toList) := by
  obtain ⟨h3, ⟨h4, -⟩ | ⟨g', cap', cur, h4, hg, hh, hc, hmx, hs, ht⟩⟩ := h
  · cases h4
  · cases h4
    have hlen : (Builtin.zeroCells (ndV zeroN).cells (n - i)).toList.length = (n - i) * 8 := by
      simp only [Builtin.zeroCells, Array.length_toList, Array.size_map, Array.size_range]
      rfl
    refine ⟨?_, ?_, setCells_below hg _ _ _⟩
    · have hst := run_storeCells_cells (P := Try.prog) g (i * 8) (Builtin.zeroCells (ndV zeroN).cells (n - i)).toList 0 w (fun j hj => by
        rw [hlen] at hj
        rw [blk_cell hh, Nat.add_zero, Array.getElem?_eq_getElem (by omega)]; rfl) (fun j _ => blk_free hh _) (zeroCells_one _)
      simp only [Nat.add_zero] at hst
      obtain ⟨m, hm⟩ : ∃ m, n - i = m + 1 := ⟨n - i - 1, by omega⟩
      rw [hm] at hst ⊢
      simp [Builtin.clear_, run_underlying Try.underlying44]
      exact (congrArg (fun (r : Result Unit) => r.andThen fun _ w' => Result.ok (Value.tuple #[]) w') hst).trans rfl
    · obtain ⟨cur', h1, h2, h3'⟩ := setCells_keep (Builtin.zeroCells (ndV zeroN).cells (n - i)).toList (i * 8) w cur hh
      have htk : (ms.take i).length = i := by rw [List.length_take]; omega
      refine ⟨by rw [flatN_length, htk], .inr ⟨g, cap, cur', rfl, hg, h1, by omega, hmx, by rw [h2]; exact hs, ?_⟩⟩
      rw [h3' _ (Nat.le_refl _)]
      have e : flatN ms = flatN (ms.take i) ++ flatN (ms.drop i) := by rw [← flatN_append, List.take_append_drop]
      have h5 : (cur.toList.take (n * 8)).take (i * 8) = flatN (ms.take i) := by
        rw [ht, e, List.take_left' (by rw [flatN_length, htk])]
      rw [← h5, List.take_take]
      congr 1
      omega
set_option maxRecDepth 20000 in
set_option maxHeartbeats 4000000 in
theorem deleteF (B : Nat) (v : Value) (l : List Nd) (w : World) (hB : B ≤ w.heap.size) (h : w.ownsRow B 34 8 v l.length (flatN l)) (hm : l.length ≤ 12) :
    Calls Try.prog 27 #[v, .func (.func 28) #[] #[]] w fun e w' => ∃ v', e = .returned v' ∧ w'.ownsRow B 34 8 v' (lives l).length (flatN (lives l)) ∧ Below B w w' := by
  have hI := indexF B v l w h (by omega)
  rcases deadI_or l with ⟨h1, h2⟩ | ⟨k, hk, h1, h2, h3⟩
  · rw [h1] at hI
    have hl : lives l = l := filter_all h2
    rw [hl]
    obtain ⟨A, cap, rfl⟩ := rowN_slice h
    have HH := hid h
    clear h
    go_enter Try.func27, Try.ntmps27
    go_wp2_with fail
    refine hI.mono ?_
    rintro e w1 ⟨rfl, hb1⟩
    go_wp2
    go_ret
    exact ⟨_, rfl, ownsRow_below HH.out hb1 (Nat.le_refl _), hb1.mono hB⟩
  · rw [h1] at hI
    obtain ⟨g, cap, rfl, hg, hgl, hcap, -, -⟩ := rowN_cells h rfl (by omega)
    have hlv : lives (l.take k) = l.take k := filter_all (fun x hx => by
      obtain ⟨j, hj, rfl⟩ := List.mem_iff_getElem.1 hx
      simp only [List.length_take] at hj
      rw [List.getElem_take]
      exact h2 j (by omega))
    have HSTART : Hid (l.take k = lives (l.take (k + 1))) := by
      unfold Hid
      rw [lives_take hk, hlv, if_neg (by rw [h3]; simp), List.append_nil]
    have HH := hid h
    have HB := hid hB
    have HK := hid hk
    obtain ⟨n, hn⟩ : ∃ n, n = l.length := ⟨_, rfl⟩
    rw [← hn] at hm hcap hk hI ⊢
    have HN := hid hn
    have hkm : (k : Int) ≤ 100 := by omega
    clear h h1 h2 h3 hlv hB hn
    go_enter Try.func27, Try.ntmps27
    go_wp2_with fail
    refine hI.mono ?_
    rintro e w1 ⟨rfl, hb1⟩
    have HR1 : Hid (w1.ownsRow B 34 8 (.slice (some ⟨g, 0, none⟩) n cap) n (flatN l)) := by
      have := ownsRow_below HH.out hb1 (Nat.le_refl _)
      rw [← HN.out] at this
      exact this
    have HB1 : Hid (Below B w w1) := hb1.mono HB.out
    have iw : IntKind.i64.wrap ((k : Int) + 1) = (k : Int) + 1 := IntWalk.i64_in _ (by omega)
    have hn0 : ¬ (k : Int) = -1 := by omega
    clear hb1 hI HH hgl
    go_upto_region 5 with fail
    go_loopw [5, 6] (fun si sj wr => ∃ (i j : Nat) (ms : List Nd), i < j ∧ j ≤ n ∧ si = .int .i64 i ∧ sj = .int .i64 j ∧ Hid (wr.ownsRow B 34 8 (.slice (some ⟨g, 0, none⟩) n cap) n (flatN ms)) ∧ Hid (ms.length = n) ∧ Hid (ms.take i = lives (l.take j)) ∧ Hid (ms.drop j = l.drop j) ∧ Hid (Below B w wr)) (fun _ j _ => n - (intOf j).toNat)
    case atStart => exact ⟨k, k + 1, l, by omega, hk, rfl, by go_num, HR1, HN.out.symm, HSTART, rfl, HB1⟩
    case round =>
      obtain ⟨i, j, ms, hij, hjn, rfl, rfl, HR, HL, HT, HD, HBW⟩ := hrel
      clear HR1 HB1 HSTART
      by_cases hj : j < n
      · obtain ⟨x, hx⟩ : ∃ x, x = l[j]'(by rw [← HN.out]; exact hj) := ⟨_, rfl⟩
        have hmj : ms[j]'(by rw [HL.out]; exact hj) = x := by
          have h1 : ms.drop j = l.drop j := HD.out
          have h2 : (ms.drop j)[0]? = (l.drop j)[0]? := by rw [h1]
          rw [List.getElem?_drop, List.getElem?_drop, Nat.add_zero, List.getElem?_eq_getElem (by rw [HL.out]; exact hj), List.getElem?_eq_getElem (by rw [← HN.out]; exact hj)] at h2
          rw [hx]
          exact Option.some.inj h2
        obtain ⟨hgl, hgf, hcell⟩ := rowN_at HR.out HL.out (by omega)
        have hc : ∀ c, c < 8 → wr.cell? ⟨g, j * 8 + c, none⟩ = (cellsN x)[c]? := fun c hc => by rw [← hmj]; exact hcell j (by rw [HL.out]; exact hj) c hc
        have HX := hid hx
        have HTN : Hid (lives (l.take (j + 1)) = lives (l.take j) ++ (if x.live = true then [x] else [])) := by
          unfold Hid
          rw [hx]
          exact lives_take (by rw [← HN.out]; exact hj)
        have HDN : Hid (ms.drop (j + 1) = l.drop (j + 1)) := by
          have h1 : (ms.drop j).drop 1 = (l.drop j).drop 1 := by rw [HD.out]
          unfold Hid
          simpa [List.drop_drop] using h1
        have hC := closureL x
        have HI' : Hid (i < j) := hij
        have HJ' : Hid (j < n) := hj
        have HM : Hid (n - (j + 1) < n - j) := by unfold Hid; omega
        clear hx hmj hcell
        obtain ⟨nx, ex, ⟨cx0, cx1, cx2, cx3⟩, sx, lx⟩ := x
        simp only [ndV, cellsN] at hC
        have e0 : wr.cell? ⟨g, j * 8, none⟩ = some (.string nx) := (hc 0 (by omega)).trans rfl
        have e1 : wr.cell? ⟨g, j * 8 + 1, none⟩ = some (.int .i64 ex) := (hc 1 (by omega)).trans rfl
        have e2 : wr.cell? ⟨g, j * 8 + 2, none⟩ = some (.int .i64 cx0) := (hc 2 (by omega)).trans rfl
        have e3 : wr.cell? ⟨g, j * 8 + 3, none⟩ = some (.int .i64 cx1) := (hc 3 (by omega)).trans rfl
        have e4 : wr.cell? ⟨g, j * 8 + 4, none⟩ = some (.int .i64 cx2) := (hc 4 (by omega)).trans rfl
        have e5 : wr.cell? ⟨g, j * 8 + 5, none⟩ = some (.int .i64 cx3) := (hc 5 (by omega)).trans rfl
        have e6 : wr.cell? ⟨g, j * 8 + 6, none⟩ = some (.int .i64 sx) := (hc 6 (by omega)).trans rfl
        have e7 : wr.cell? ⟨g, j * 8 + 7, none⟩ = some (.bool lx) := (hc 7 (by omega)).trans rfl
        clear hc
        go_wp2_with fail
        refine (hC _).mono ?_
        rintro e w2 ⟨rfl, hb2⟩
        have X2 : w2.heap[wr.heap.size]? = some (.cells #[.string nx, .int .i64 ex, .int .i64 cx0, .int .i64 cx1, .int .i64 cx2, .int .i64 cx3, .int .i64 sx, .bool lx] 34 (0, 0)) := below_at hb2 (by simp) (alloc_at _ _)
        have HB2 : Hid (Below wr.heap.size wr w2) := Below.trans (by repeat (first | with_reducible assumption | with_reducible exact Below.refl _ _ | with_reducible refine Below.drew ?_ | with_reducible refine below_drewN ?_ _ | with_reducible refine below_alloc ?_ _ | with_reducible refine Below.alloc ?_ (by first | omega | (simp; done) | (simp; omega)) _ | with_reducible refine Below.setCell ?_ (by first | omega | (simp; done) | (simp; omega)) _ | with_reducible refine below_setRow ?_ (by first | omega | (simp; done) | (simp; omega)) _)) (hb2.mono (by simp))
        have HR2 : Hid (w2.ownsRow B 34 8 (.slice (some ⟨g, 0, none⟩) n cap) n (flatN ms)) := ownsRow_below HR.out HB2.out (Nat.le_refl _)
        have HBB : Hid (B ≤ wr.heap.size) := Nat.le_trans HB.out HBW.out.size
        have HBW2 : Hid (Below B w w2) := HBW.out.trans (HB2.out.mono HBB.out)
        have xl := lt_of_at X2
        have gl2 : g < w2.heap.size := Nat.lt_of_lt_of_le hgl HB2.out.size
        have gne : g ≠ wr.heap.size := Nat.ne_of_lt hgl
        have GF := (rowN_at HR2.out HL.out (by omega)).2.1
        clear e0 e1 e2 e3 e4 e5 e6 e7 hC hb2 hgf
        have iwj : IntKind.i64.wrap ((j : Int) + 1) = (j : Int) + 1 := IntWalk.i64_in _ (by omega)
        have iwi : IntKind.i64.wrap ((i : Int) + 1) = (i : Int) + 1 := IntWalk.i64_in _ (by omega)
        cases lx with
        | false =>
          go_wp2
          go_roundw
          case rel =>
            (repeat apply Exists.intro)
            refine ⟨⟨i, j + 1, ms, ?_, HJ'.out, ?_, ?_, HR2, HL, ?_, HDN, HBW2⟩, rfl⟩
            · have := HI'.out; omega
            · go_num
            · go_num
            unfold Hid
            rw [HTN.out, if_neg (by simp), List.append_nil]
            exact HT.out
          case measure => have := HM.out; simp [intOf]; omega
        | true =>
          have hin : i < ms.length := by rw [HL.out]; omega
          have old : ∀ c, c < 8 → ∃ u, w2.cell? ⟨g, i * 8 + c, none⟩ = some u := fun c hc => by
            have q := (rowN_at HR2.out HL.out (by omega)).2.2
            have h8 : c < (cellsN ms[i]).length := hc
            exact ⟨_, (q i hin c hc).trans (List.getElem?_eq_getElem h8)⟩
          obtain ⟨o0, q0⟩ := old 0 (by omega)
          obtain ⟨o1, q1⟩ := old 1 (by omega)
          obtain ⟨o2, q2⟩ := old 2 (by omega)
          obtain ⟨o3, q3⟩ := old 3 (by omega)
          obtain ⟨o4, q4⟩ := old 4 (by omega)
          obtain ⟨o5, q5⟩ := old 5 (by omega)
          obtain ⟨o6, q6⟩ := old 6 (by omega)
          obtain ⟨o7, q7⟩ := old 7 (by omega)
          rw [Nat.add_zero] at q0
          have HPUT := hid (rowN_put HR2.out hin ⟨nx, ex, (cx0, cx1, cx2, cx3), sx, true⟩)
          simp only at HPUT
          have HIN := hid hin
          have hin' : (i : Int) < n := by omega
          have x0 : w2.cell? ⟨wr.heap.size, 0, none⟩ = some (.string nx) := (blk_cell X2 0).trans rfl
          have x1 : w2.cell? ⟨wr.heap.size, 1, none⟩ = some (.int .i64 ex) := (blk_cell X2 1).trans rfl
          have x2 : w2.cell? ⟨wr.heap.size, 2, none⟩ = some (.int .i64 cx0) := (blk_cell X2 2).trans rfl
          have x3 : w2.cell? ⟨wr.heap.size, 3, none⟩ = some (.int .i64 cx1) := (blk_cell X2 3).trans rfl
          have x4 : w2.cell? ⟨wr.heap.size, 4, none⟩ = some (.int .i64 cx2) := (blk_cell X2 4).trans rfl
          have x5 : w2.cell? ⟨wr.heap.size, 5, none⟩ = some (.int .i64 cx3) := (blk_cell X2 5).trans rfl
          have x6 : w2.cell? ⟨wr.heap.size, 6, none⟩ = some (.int .i64 sx) := (blk_cell X2 6).trans rfl
          have x7 : w2.cell? ⟨wr.heap.size, 7, none⟩ = some (.bool true) := (blk_cell X2 7).trans rfl
          clear old hin X2
          go_wp2
          go_roundw
          case rel =>
            (repeat apply Exists.intro)
            refine ⟨⟨i + 1, j + 1, _, ?_, HJ'.out, ?_, ?_, HPUT, ?_, ?_, ?_, ?_⟩, rfl⟩
            · have := HI'.out; omega
            · go_num
            · go_num
            · unfold Hid; rw [List.length_set]; exact HL.out
            · unfold Hid
              rw [HTN.out, if_pos trivial, ← HT.out, List.take_set]
              have h1 := HIN.out
              rw [List.take_add_one, List.getElem?_eq_getElem h1]
              simp only [Option.toList_some]
              rw [List.set_append_right _ _ (by simp only [List.length_take]; omega)]
              simp [Nat.min_eq_left (Nat.le_of_lt h1)]
            · unfold Hid
              rw [List.drop_set_of_lt (by have := HI'.out; omega)]
              exact HDN.out
            · unfold Hid
              have h9 : ∀ (W : World) (c : Nat) (u : Value), Below B w W → Below B w (W.setCell ⟨g, c, none⟩ u) := fun W c u hh => hh.setCell (p := ⟨g, c, none⟩) hg u
              exact h9 _ _ _ (h9 _ _ _ (h9 _ _ _ (h9 _ _ _ (h9 _ _ _ (h9 _ _ _ (h9 _ _ _ (h9 _ _ _ HBW2.out)))))))
          case measure => have := HM.out; simp [intOf]; omega
      · obtain rfl : j = n := by omega
        have hin : i < j := hij
        obtain ⟨Z, hcl, hrow, hbe⟩ : ∃ Z, (∀ ty, (Builtin.clear_ #[44] ty #[.slice (some ⟨g, i * 8, none⟩) (j - i) (cap - i)]).run Try.prog wr = .ok (.tuple #[]) (wr.setCells g (i * 8) Z)) ∧ (wr.setCells g (i * 8) Z).ownsRow B 34 8 (.slice (some ⟨g, 0, none⟩) i cap) i (flatN (ms.take i)) ∧ Below B wr (wr.setCells g (i * 8) Z) :=
          ⟨_, fun ty => (row_head HR.out hin HL.out (cap - i) ty).1, (row_head HR.out hin HL.out (cap - i) 0).2.1, (row_head HR.out hin HL.out (cap - i) 0).2.2⟩
        have hci : ¬ cap = i := by omega
        have hci' : (i : Int) ≤ (cap : Int) := by omega
        have HROW := hid hrow
        have HBE := hid hbe
        have HCI : Hid (i ≤ j) := Nat.le_of_lt hin
        clear hrow hbe
        have HT1 : Hid (lives l = ms.take i) := by
          unfold Hid
          rw [HT.out, HN.out, List.take_length]
        have HLI : Hid ((ms.take i).length = i) := by
          unfold Hid
          rw [List.length_take, HL.out]
          exact Nat.min_eq_left HCI.out
        go_wp2
        go_ret
        refine ⟨_, rfl, ?_, HBW.out.trans HBE.out⟩
        rw [HT1.out, HLI.out]
        exact HROW.out
end Go.Proofs.Ytkplhobiciddoaa
