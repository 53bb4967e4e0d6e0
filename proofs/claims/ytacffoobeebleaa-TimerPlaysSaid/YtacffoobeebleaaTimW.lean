/- Contract of the reference's Set of chapter 10: an old name, a full clock, and all together. -/
import Derived.Test.YtacffoobeebleaaTimY
namespace Go.Proofs.Ytacffoobeebleaa
open Go.RowKit
set_option maxRecDepth 20000 in
set_option maxHeartbeats 16000000 in
theorem rset_old (B R : Nat) (v : Value) (l : List Al) (s : ByteArray) (t : Int) (w : World) (h : RefK B w R v l) (hm : l.length ≤ 1024) (hso : Sorted l) (hd : Apart l) (hh : hasN l s = true) :
    Calls Try.prog 25 #[.pointer (some ⟨R, 0, none⟩), .string s, .int .i64 t] w fun e w' => e = .returned (.int .i64 0) ∧ RPost B w w' R v (fun l' => Sorted l' ∧ l'.length = l.length ∧ ∀ x, x ∈ l' ↔ x = (s, t) ∨ (x ∈ l ∧ x.1 ≠ s)) := by
  obtain ⟨k, hk, e, hn⟩ := least_name hh
  have HH := hid h
  have HK : Hid (k < l.length) := hk
  have HM : Hid (l.length ≤ 1024) := hm
  have HF : Hid (∀ W, RefK B W R v l → _) := fun W hW => rfind_old B R v l s k W hW (by omega) hk e hn
  have HQ0 : Hid (Sorted (l.take k ++ l.drop (k + 1)) ∧ (l.take k ++ l.drop (k + 1)).length + 1 = l.length ∧ ∀ x, x ∈ l.take k ++ l.drop (k + 1) ↔ (x ∈ l ∧ x.1 ≠ s)) := ⟨cut_sorted hso k, cut_len hk, fun x => by rw [cut_mem hk hd, e]⟩
  have hk0 : (0 : Int) ≤ (k : Int) := by omega
  clear h hm hk e hn hd hso hh
  go_enter Try.func25, Try.ntmps25
  go_wp2_with fail
  refine (HF.out w HH.out).mono ?_
  rintro e w1 ⟨rfl, hb1⟩
  have HB1 := hid hb1
  clear hb1
  go_wp2_with fail
  refine (rtake_any B R v l k w1 (HH.out.below HB1.out) HM.out HK.out).mono ?_
  rintro e W ⟨rfl, v1, l1, q1, hl1, q3, q4⟩
  rw [← hl1] at HQ0
  have H1 := hid q1
  have HSO : Hid (Sorted l1) := HQ0.out.1
  have HL : Hid (l1.length ≤ 1023) := by have := HQ0.out.2.1; have := HM.out; unfold Hid; omega
  have HNE : Hid (∀ x ∈ l1, x.1 ≠ s) := fun x hx => ((HQ0.out.2.2 x).1 hx).2
  have HX : Hid (l1.length + 1 = l.length ∧ ∀ x, x ∈ l1 ↔ (x ∈ l ∧ x.1 ≠ s)) := HQ0.out.2
  have HTW : Hid (Tur (FootR R v) w W) := (Tur.of_below HB1.out).then q3
  have HFW : Hid (∀ i, FootR R v1 i → FootR R v i ∨ w.heap.size ≤ i) := fun i hi => by
    rcases q4 i hi with h | h
    · exact .inl h
    · right; have := HB1.out.size; omega
  clear q1 hl1 q3 q4 HQ0 hk0
  go_upto_region 6 with fail
  go_upto_region 7 with fail
  refine wp_name ?_
  intro w2 hw2
  have A2 : w2.heap[W.heap.size]? = some (.cells #[.string s, .int .i64 t] 36 (0, 0)) := by rw [hw2]; exact at_of (by apply Exists.intro; refine ⟨?_, ?_⟩; (focus ((repeat (first | (with_reducible assumption) | (with_reducible exact alloc_at _ _) | ((with_reducible apply alloc_at'); (simp; done)) | (with_reducible apply alloc_at_lt) | (with_reducible apply heap_drew_at) | (with_reducible apply heap_drewN_at) | (with_reducible apply heap_setCell_same) | ((with_reducible apply heap_set_ne); (first | omega | (dsimp only; omega) | (simp; done) | (simp; omega))) | (with_reducible apply setRow_at) | ((with_reducible apply setRow_ne); (first | omega | (dsimp only; omega) | (simp; done) | (simp; omega))))))); simp)
  have B2 : Below W.heap.size W w2 := by rw [hw2]; exact (by repeat (first | with_reducible assumption | with_reducible exact Below.refl _ _ | with_reducible refine Below.drew ?_ | with_reducible refine below_drewN ?_ _ | with_reducible refine below_alloc ?_ _ | with_reducible refine Below.alloc ?_ (by first | omega | (simp; done) | (simp; omega)) _ | with_reducible refine Below.setCell ?_ (by first | omega | (simp; done) | (simp; omega)) _ | with_reducible refine below_setRow ?_ (by first | omega | (simp; done) | (simp; omega)) _))
  clear hw2
  have R2 := H1.out.below B2
  obtain ⟨q0, qf⟩ := R2.cell
  obtain ⟨A, cp0, hvs⟩ := R2.row.slice
  have hlR := R2.lt
  have la := lt_of_at A2
  have a0 := (blk_cell A2 0).trans (rfl : #[Value.string s, .int .i64 t][0]? = some (.string s))
  have a1 := (blk_cell A2 1).trans (rfl : #[Value.string s, .int .i64 t][1]? = some (.int .i64 t))
  obtain ⟨v4, w4, happ, hrow4, hG4, hv4⟩ := app_om (m := 1) (c := 1) (l' := [(s, t)]) (W := (w2.alloc (.cells #[.string s, .int .i64 t] 36)).drew) rfl (by have := R2.bs; simp; omega) (R2.row.at (w' := (w2.alloc (.cells #[.string s, .int .i64 t] 36)).drew) (fun i hi => Below.heap_alloc _ _ _ (R2.row.lt i hi).2)) (by have := HL.out; simp; omega) 44 ⟨w2.heap.size, 0, none⟩ (by have := World.news_of_block (heap_drew_at (alloc_at w2 (.cells #[.string s, .int .i64 t] 36 (0, 0)))); exact this)
  have hW2 : W.heap.size < w2.heap.size := la
  have hRne := R2.own_ne
  have hR4 : w4.heap[R]? = some (.cells #[v1] 46 (0, 0)) := (hG4.block R (by simp; omega) (fun e => hRne e.symm)).trans (heap_drew_at (alloc_at_lt R2.blk _))
  have A4 : w4.heap[W.heap.size]? = some (.cells #[.string s, .int .i64 t] 36 (0, 0)) := (hG4.block _ (by simp; omega) (fun e => by have := (H1.out.row.lt _ e.symm).2; omega)).trans (heap_drew_at (alloc_at_lt A2 _))
  have T4 : Tur (FootR R v1) W w4 := ((Tur.of_below B2).then (Tur.of_below ((below_alloc (Below.refl _ _) _).drew))).then (Tur.of_grown hG4 (fun k e => .inl (.inr e)))
  have hv4R : v4.ownBlock ≠ some R := by
    rcases hv4 with h | h
    · rw [h]; exact hRne
    · rw [h]; intro e; injection e with e; simp at e; omega
  obtain ⟨R5, T5⟩ := H1.out.store T4 hR4 hrow4 hv4R
  have hFK : ∀ k, FootR R v4 k → FootR R v1 k ∨ W.heap.size ≤ k := fun i hi => by
    rcases hi with rfl | hi
    · exact .inl (.inl rfl)
    · rcases hv4 with h | h
      · rw [h] at hi; exact .inl (.inr hi)
      · rw [h] at hi; cases hi; right; simp; omega
  have hAR : W.heap.size ≠ R := by have := H1.out.lt; omega
  have A5 : (w4.setCell ⟨R, 0, none⟩ v4).heap[W.heap.size]? = some (.cells #[.string s, .int .i64 t] 36 (0, 0)) := (heap_setCell_other w4 ⟨R, 0, none⟩ _ _ hAR).trans A4
  obtain ⟨g, o, cap, hv5, hcap, -, -, -, -⟩ := hrow4.cells (by simp)
  have hl1 : (l1 ++ [((s, t) : Al)]).length = l1.length + 1 := by simp
  rw [hl1] at hv5
  subst hv5
  have hgA : g ≠ W.heap.size := by
    rcases hv4 with h | h
    · intro e; have := (H1.out.row.lt g (by rw [← h]; rfl)).2; omega
    · intro e; injection h with h; simp at h; omega
  have HGR : Hid (g ≠ R) := fun e => hv4R (by rw [e]; rfl)
  have HGA := hid hgA
  have FK := hid hFK
  have r4 : w4.cell? ⟨R, 0, none⟩ = some v1 := (blk_cell hR4 0).trans rfl
  have rf4 := blk_free hR4
  have hlR4 := lt_of_at hR4
  have a40 := (blk_cell A4 0).trans (rfl : #[Value.string s, .int .i64 t][0]? = some (.string s))
  have a41 := (blk_cell A4 1).trans (rfl : #[Value.string s, .int .i64 t][1]? = some (.int .i64 t))
  have HAPP := hid happ
  have HR5 := hid R5
  have HT5 := hid T5
  have HA5 := hid A5
  subst hvs
  clear happ hrow4 hG4 hv4 hRne hR4 A4 T4 hv4R R5 T5 hFK A5 hgA R2 A2 B2 hcap
  go_cut [33] (fun s33 wx => s33 = .slice (some ⟨g, o, none⟩) (l1.length + 1) cap ∧ wx = w4.setCell ⟨R, 0, none⟩ (.slice (some ⟨g, o, none⟩) (l1.length + 1) cap))
  case first =>
    go_region_law (refine step_append_eq rfl (.tmp 30) (.tmp 32) 44 rfl (v := .slice A l1.length cp0) (y := .slice (some ⟨w2.heap.size, 0, none⟩) 1 1) (by simp [Act.eval]) (by simp [Act.eval]) HAPP.out ?_)
    all_goals
      go_wp2_with fail
      go_meet
      exact ⟨rfl, rfl⟩
  case rest =>
    obtain ⟨rfl, hw5⟩ := hcut
    obtain ⟨w5, rfl⟩ : ∃ wx_ : World, wx_ = wc := ⟨_, rfl⟩
    rw [← hw5] at HR5 HT5 HA5
    clear hw5 r4 rf4 hlR4 a40 a41 q0 qf a0 a1 hlR la hW2 HAPP
    have r5 : w5.cell? ⟨R, 0, none⟩ = some (.slice (some ⟨g, o, none⟩) (l1.length + 1) cap) := HR5.out.cell.1
    have hlR5 := HR5.out.lt
    have hll : (l1.length : Int) ≤ 1023 := by have := HL.out; omega
    have iw1 : IntKind.i64.wrap (((l1.length + 1 : Nat) : Int) - 1) = (l1.length : Int) := by rw [show ((l1.length + 1 : Nat) : Int) - 1 = l1.length by omega]; exact IntWalk.i64_in _ (by omega)
    have iw2 : IntKind.i64.wrap ((l1.length : Int) + 1 - 1) = (l1.length : Int) := by rw [show (l1.length : Int) + 1 - 1 = l1.length by omega]; exact IntWalk.i64_in _ (by omega)
    have iw3 : IntKind.i64.wrap (l1.length : Int) = (l1.length : Int) := IntWalk.i64_in _ (by omega)
    go_wp2
    clear iw1 iw2 iw3
    go_loopw [7] (fun i wr => ∃ (j : Nat) (y : Al), j ≤ l1.length ∧ i = .int .i64 j ∧ Hid (RefK B wr R (.slice (some ⟨g, o, none⟩) (l1.length + 1) cap) (l1.take j ++ y :: l1.drop j)) ∧ Hid (Tur (FootR R (.slice A l1.length cp0)) W wr) ∧ Hid (wr.heap[W.heap.size]? = some (.cells #[.string s, .int .i64 t] 36 (0, 0))) ∧ Hid (∀ i, j ≤ i → i < l1.length → ltA (s, t) (el l1 i) = true)) (fun i _ => (intOf i).toNat)
    case atStart => exact ⟨l1.length, (s, t), Nat.le_refl _, rfl, by unfold Hid; rw [List.take_length, List.drop_length]; exact HR5.out, HT5.out, HA5.out, fun i h1 h2 => absurd h2 (by omega)⟩
    case round =>
      obtain ⟨j, y, hj, rfl, RK, TK, AK, LT⟩ := hrel
      have hllj : (j : Int) ≤ 1023 := by omega
      have hji : (j : Int) < (l1.length : Int) + 1 := by omega
      have hjn : j < l1.length + 1 := by omega
      rcases j with _ | p
      · go_upto_region 9 with fail
        refine wp_region_lat (by kernel_rfl) (by kernel_rfl) ?_
        repeat (go_big_quiet_step (fail))
        refine wpQuiet_nil ?_
        rintro w6 ⟨x6, hx6⟩
        have hb6 := x6.h
        rw [← hx6] at hb6
        clear hx6 x6
        have hq6 : AtExit l1 0 (s, t) := ⟨fun i hi => absurd hi (Nat.not_lt_zero i), LT.out⟩
        have RK' := hid (RK.out.below hb6)
        have TK' := hid (TK.out.then (Tur.of_below hb6))
        have AK' := hid (below_at hb6 (lt_of_at AK.out) AK.out)
        have HQ := hid hq6
        clear RK TK AK hb6 hq6
        have RK := RK'
        have TK := TK'
        have AK := AK'
        clear RK' TK' AK'
        obtain ⟨wr, rfl⟩ : ∃ x, x = w6 := ⟨_, rfl⟩
        have rk := RK.out
        obtain ⟨q0, qf⟩ := rk.cell
        have hlRr := rk.lt
        have a0 := (blk_cell AK.out 0).trans (rfl : #[Value.string s, .int .i64 t][0]? = some (.string s))
        have a1 := (blk_cell AK.out 1).trans (rfl : #[Value.string s, .int .i64 t][1]? = some (.int .i64 t))
        have la := lt_of_at AK.out
        have e0 : ∀ lx_ : Lat wr.heap.size wr, lx_.w.cell? ⟨R, 0, none⟩ = some (.slice (some ⟨g, o, none⟩) (l1.length + 1) cap) := fun lx_ => by rw [lx_.cell _ _ hlRr]; exact q0
        have e1 : ∀ lx_ : Lat wr.heap.size wr, lx_.w.cell? ⟨W.heap.size, 0, none⟩ = some (.string s) := fun lx_ => by rw [lx_.cell _ _ la]; exact a0
        have e2 : ∀ lx_ : Lat wr.heap.size wr, lx_.w.cell? ⟨W.heap.size, 1, none⟩ = some (.int .i64 t) := fun lx_ => by rw [lx_.cell _ _ la]; exact a1
        have HLEN : Hid ((l1.take 0 ++ y :: l1.drop 0).length = l1.length + 1) := by unfold Hid; simp <;> omega
        clear rk q0 qf a0 a1
        go_upto_region 12 with fail
        refine wp_region_lat_tail 6 (by kernel_rfl) (by kernel_rfl) ?_
        simp only [List.take_succ_cons, List.take_zero, List.drop_succ_cons, List.drop_zero]
        repeat (go_big_quiet_step (fail))
        refine wpQuiet_nil ?_
        clear e0 e1 e2
        rintro w7 ⟨x7, hx7⟩
        have hb7 := x7.h
        rw [← hx7] at hb7
        clear hx7 x7
        have rk7 := RK.out.below hb7
        obtain ⟨g', o', cap', hv, -, -, hgl7, hgf7, hcell7⟩ := rk7.row.cells (by have := HLEN.out; omega)
        obtain ⟨rfl, rfl, rfl⟩ : g' = g ∧ o' = o ∧ cap' = cap := by
          rw [HLEN.out] at hv
          injection hv with h1 h2 h3
          injection h1 with h1
          injection h1 with h1 h4
          exact ⟨h1.symm, h4.symm, h3.symm⟩
        obtain ⟨p0, p1⟩ := hcell7 0 (by have := HLEN.out; omega)
        have HFIN : Hid (RPost B W ((w7.setCell ⟨g', o' + 0 * 2, none⟩ (.string s)).setCell ⟨g', o' + 0 * 2 + 1, none⟩ (.int .i64 t)) R (.slice A l1.length cp0) (fun l' => l' = l1.take 0 ++ (s, t) :: l1.drop 0)) := by
          have hput := rk7.row.put (j := 0) (by have := HLEN.out; omega) (s, t)
          rw [hole_set (by omega)] at hput
          have t7 : Tur (FootR R (.slice A l1.length cp0)) W ((w7.setCell ⟨g', o' + 0 * 2, none⟩ (.string s)).setCell ⟨g', o' + 0 * 2 + 1, none⟩ (.int .i64 t)) :=
            (TK.out.then (Tur.of_below hb7)).trans ((Tur.set (F := fun k => k = g') _ (.inl rfl)).then (Tur.set _ (.inl rfl))) (fun i hi => by subst hi; exact FK.out _ (.inr rfl))
          refine ⟨_, _, ⟨rk7.le, ?_, hput, by have := rk7.bs; simpa using this⟩, rfl, t7, FK.out⟩
          rw [heap_setCell_other _ ⟨g', _, none⟩ R _ (Ne.symm HGR.out), heap_setCell_other _ ⟨g', _, none⟩ R _ (Ne.symm HGR.out)]
          exact rk7.blk
        have n1 : ¬ o' + 0 * 2 = o' + 0 * 2 + 1 := by omega
        clear rk7 hcell7 hv hb7
        simp only [Nat.zero_mul, Nat.add_zero] at p0 p1 HFIN n1
        go_wp2
        go_ret
        exact ⟨rfl, by
            obtain ⟨v', l', q1, rfl, q3, q4⟩ := HFIN.out
            refine ⟨v', _, q1, ⟨exit_sorted HSO.out (by omega) HQ.out, (exit_len (by omega)).trans HX.out.1, fun x => exit_mem.trans (or_congr Iff.rfl (HX.out.2 x))⟩, HTW.out.trans q3 (fun i hi => HFW.out i hi), fun i hi => ?_⟩
            rcases q4 i hi with h | h
            · exact HFW.out i h
            · right; have := HTW.out.size; omega⟩
      · have hpl : p < l1.length := by omega
        have hpi : (p : Int) < (l1.length : Int) + 1 := by omega
        have hpn : p < l1.length + 1 := by omega
        have iw1 : IntKind.i64.wrap (((p + 1 : Nat) : Int) - 1) = (p : Int) := by rw [show ((p + 1 : Nat) : Int) - 1 = p by omega]; exact IntWalk.i64_in _ (by omega)
        have iw2 : IntKind.i64.wrap ((p : Int) + 1 - 1) = (p : Int) := by rw [show (p : Int) + 1 - 1 = p by omega]; exact IntWalk.i64_in _ (by omega)
        have iw3 : IntKind.i64.wrap (p : Int) = (p : Int) := IntWalk.i64_in _ (by omega)
        have it0 : (0 : Int) < (p : Int) + 1 := by omega
        have it1 : ((p : Int) + 1).toNat = p + 1 := by omega
        have it2 : (0 : Int) ≤ (p : Int) + 1 := by omega
        have it3 : (p : Int) + 1 < (l1.length : Int) + 1 := by omega
        obtain ⟨g', o', cap', hv, -, -, hgl, hgf, hcell⟩ := RK.out.row.cells (by simp; omega)
        have hlen : (l1.take (p + 1) ++ y :: l1.drop (p + 1)).length = l1.length + 1 := by simp; omega
        obtain ⟨rfl, rfl, rfl⟩ : g' = g ∧ o' = o ∧ cap' = cap := by
          rw [hlen] at hv
          injection hv with h1 h2 h3
          injection h1 with h1
          injection h1 with h1 h4
          exact ⟨h1.symm, h4.symm, h3.symm⟩
        obtain ⟨c0, c1⟩ := hcell p (by omega)
        rw [hole_left (by omega)] at c0 c1
        obtain ⟨⟨zs, za⟩, hz⟩ : ∃ x, x = el l1 p := ⟨_, rfl⟩
        rw [← hz] at c0 c1
        have HZ := hid hz
        obtain ⟨q0, qf⟩ := RK.out.cell
        have hlRr := RK.out.lt
        have a0 := (blk_cell AK.out 0).trans (rfl : #[Value.string s, .int .i64 t][0]? = some (.string s))
        have a1 := (blk_cell AK.out 1).trans (rfl : #[Value.string s, .int .i64 t][1]? = some (.int .i64 t))
        have la := lt_of_at AK.out
        have e0 : ∀ lx_ : Lat wr.heap.size wr, lx_.w.cell? ⟨R, 0, none⟩ = some (.slice (some ⟨g', o', none⟩) (l1.length + 1) cap') := fun lx_ => by rw [lx_.cell _ _ hlRr]; exact q0
        have e1 : ∀ lx_ : Lat wr.heap.size wr, lx_.w.cell? ⟨W.heap.size, 0, none⟩ = some (.string s) := fun lx_ => by rw [lx_.cell _ _ la]; exact a0
        have e2 : ∀ lx_ : Lat wr.heap.size wr, lx_.w.cell? ⟨W.heap.size, 1, none⟩ = some (.int .i64 t) := fun lx_ => by rw [lx_.cell _ _ la]; exact a1
        have e3 : ∀ lx_ : Lat wr.heap.size wr, lx_.w.cell? ⟨g', o' + p * 2, none⟩ = some (.string zs) := fun lx_ => by rw [lx_.cell _ _ hgl]; exact c0
        have e4 : ∀ lx_ : Lat wr.heap.size wr, lx_.w.cell? ⟨g', o' + p * 2 + 1, none⟩ = some (.int .i64 za) := fun lx_ => by rw [lx_.cell _ _ hgl]; exact c1
        obtain ⟨q, hq⟩ : ∃ q, q = ltA (s, t) (zs, za) := ⟨_, rfl⟩
        have HBF : Hid (∀ W, Calls Try.prog 14 #[.agg #[.string s, .int .i64 t], .agg #[.string zs, .int .i64 za]] W fun e w' => e = .returned (.bool q) ∧ Below W.heap.size W w') := fun W => by
          have := before_any s zs t za W
          rw [← hq] at this; exact this
        have HQV := hid hq
        clear c0 c1 q0 qf a0 a1 hcell hv hz hlen hq
        cases q with
        | false =>
          go_upto_region 9 with fail
          refine wp_region_lat (by kernel_rfl) (by kernel_rfl) ?_
          repeat (go_big_quiet_step ((go_at_call 14; exact lat_of (Nat.le_refl _) (HBF.out _))))
          refine wpQuiet_nil ?_
          clear e0 e1 e2 e3 e4
          rintro w6 ⟨x6, hx6⟩
          have hb6 := x6.h
          rw [← hx6] at hb6
          clear hx6 x6
          have hq6 : AtExit l1 (p + 1) (s, t) := ⟨fun i hi => by
            have h1 : ltA (el l1 p) (s, t) = true := by
              cases e : ltA (el l1 p) (s, t)
              · have h2 : ltA (s, t) (el l1 p) = false := by rw [← HZ.out]; exact HQV.out.symm
                have := ltA_tri h2 e
                exact absurd (by rw [← this]) (HNE.out _ (el_mem hpl))
              · rfl
            rcases Nat.lt_or_ge i p with h3 | h3
            · have h4 := List.pairwise_iff_getElem.1 HSO.out i p (by omega) hpl h3
              rw [← el_eq (by omega), ← el_eq hpl] at h4
              exact ltA_tr h4 h1
            · have : i = p := by omega
              subst this; exact h1, LT.out⟩
          have RK' := hid (RK.out.below hb6)
          have TK' := hid (TK.out.then (Tur.of_below hb6))
          have AK' := hid (below_at hb6 (lt_of_at AK.out) AK.out)
          have HQ := hid hq6
          clear RK TK AK hb6 hq6
          have RK := RK'
          have TK := TK'
          have AK := AK'
          clear RK' TK' AK' hgl hgf hlRr la
          obtain ⟨wr, rfl⟩ : ∃ x, x = w6 := ⟨_, rfl⟩
          have rk := RK.out
          obtain ⟨q0, qf⟩ := rk.cell
          have hlRr := rk.lt
          have a0 := (blk_cell AK.out 0).trans (rfl : #[Value.string s, .int .i64 t][0]? = some (.string s))
          have a1 := (blk_cell AK.out 1).trans (rfl : #[Value.string s, .int .i64 t][1]? = some (.int .i64 t))
          have la := lt_of_at AK.out
          have e0 : ∀ lx_ : Lat wr.heap.size wr, lx_.w.cell? ⟨R, 0, none⟩ = some (.slice (some ⟨g', o', none⟩) (l1.length + 1) cap') := fun lx_ => by rw [lx_.cell _ _ hlRr]; exact q0
          have e1 : ∀ lx_ : Lat wr.heap.size wr, lx_.w.cell? ⟨W.heap.size, 0, none⟩ = some (.string s) := fun lx_ => by rw [lx_.cell _ _ la]; exact a0
          have e2 : ∀ lx_ : Lat wr.heap.size wr, lx_.w.cell? ⟨W.heap.size, 1, none⟩ = some (.int .i64 t) := fun lx_ => by rw [lx_.cell _ _ la]; exact a1
          have HLEN : Hid ((l1.take (p + 1) ++ y :: l1.drop (p + 1)).length = l1.length + 1) := by unfold Hid; simp <;> omega
          clear rk q0 qf a0 a1
          go_upto_region 12 with fail
          refine wp_region_lat_tail 6 (by kernel_rfl) (by kernel_rfl) ?_
          simp only [List.take_succ_cons, List.take_zero, List.drop_succ_cons, List.drop_zero]
          repeat (go_big_quiet_step (fail))
          refine wpQuiet_nil ?_
          clear e0 e1 e2
          rintro w7 ⟨x7, hx7⟩
          have hb7 := x7.h
          rw [← hx7] at hb7
          clear hx7 x7
          have rk7 := RK.out.below hb7
          obtain ⟨g2, o2, cap2, hv, -, -, hgl7, hgf7, hcell7⟩ := rk7.row.cells (by have := HLEN.out; omega)
          obtain ⟨rfl, rfl, rfl⟩ : g2 = g' ∧ o2 = o' ∧ cap2 = cap' := by
            rw [HLEN.out] at hv
            injection hv with h1 h2 h3
            injection h1 with h1
            injection h1 with h1 h4
            exact ⟨h1.symm, h4.symm, h3.symm⟩
          obtain ⟨p0, p1⟩ := hcell7 (p + 1) (by have := HLEN.out; omega)
          have HFIN : Hid (RPost B W ((w7.setCell ⟨g2, o2 + (p + 1) * 2, none⟩ (.string s)).setCell ⟨g2, o2 + (p + 1) * 2 + 1, none⟩ (.int .i64 t)) R (.slice A l1.length cp0) (fun l' => l' = l1.take (p + 1) ++ (s, t) :: l1.drop (p + 1))) := by
            have hput := rk7.row.put (j := (p + 1)) (by have := HLEN.out; omega) (s, t)
            rw [hole_set (by omega)] at hput
            have t7 : Tur (FootR R (.slice A l1.length cp0)) W ((w7.setCell ⟨g2, o2 + (p + 1) * 2, none⟩ (.string s)).setCell ⟨g2, o2 + (p + 1) * 2 + 1, none⟩ (.int .i64 t)) :=
              (TK.out.then (Tur.of_below hb7)).trans ((Tur.set (F := fun k => k = g2) _ (.inl rfl)).then (Tur.set _ (.inl rfl))) (fun i hi => by subst hi; exact FK.out _ (.inr rfl))
            refine ⟨_, _, ⟨rk7.le, ?_, hput, by have := rk7.bs; simpa using this⟩, rfl, t7, FK.out⟩
            rw [heap_setCell_other _ ⟨g2, _, none⟩ R _ (Ne.symm HGR.out), heap_setCell_other _ ⟨g2, _, none⟩ R _ (Ne.symm HGR.out)]
            exact rk7.blk
          have n1 : ¬ o2 + (p + 1) * 2 = o2 + (p + 1) * 2 + 1 := by omega
          clear rk7 hcell7 hv hb7
          go_wp2
          go_ret
          exact ⟨rfl, by
              obtain ⟨v', l', q1, rfl, q3, q4⟩ := HFIN.out
              refine ⟨v', _, q1, ⟨exit_sorted HSO.out (by omega) HQ.out, (exit_len (by omega)).trans HX.out.1, fun x => exit_mem.trans (or_congr Iff.rfl (HX.out.2 x))⟩, HTW.out.trans q3 (fun i hi => HFW.out i hi), fun i hi => ?_⟩
              rcases q4 i hi with h | h
              · exact HFW.out i h
              · right; have := HTW.out.size; omega⟩
        | true =>
          have hlt : ∀ i, p ≤ i → i < l1.length → ltA (s, t) (el l1 i) = true := fun i h1 h2 => by
            rcases Nat.lt_or_ge p i with h3 | h3
            · exact LT.out i h3 h2
            · have : i = p := by omega
              subst this; rw [← HZ.out]; exact HQV.out.symm
          have HLT := hid hlt
          clear hlt
          go_upto_region 9 with fail
          refine wp_region_lat (by kernel_rfl) (by kernel_rfl) ?_
          repeat (go_big_quiet_step ((go_at_call 14; exact lat_of (Nat.le_refl _) (HBF.out _))))
          refine wpQuiet_nil ?_
          clear e0 e1 e2 e3 e4
          rintro w6 ⟨x6, hx6⟩
          have hb6 := x6.h
          rw [← hx6] at hb6
          clear hx6 x6
          have R6 := RK.out.below hb6
          have T6 := hid (TK.out.then (Tur.of_below hb6))
          have A6 := hid (below_at hb6 (lt_of_at AK.out) AK.out)
          obtain ⟨g2, o2, cap2, hv, -, -, hgl6, -, hcell6⟩ := R6.row.cells (by simp; omega)
          have hlen : (l1.take (p + 1) ++ y :: l1.drop (p + 1)).length = l1.length + 1 := by simp; omega
          obtain ⟨rfl, rfl, rfl⟩ : g2 = g' ∧ o2 = o' ∧ cap2 = cap' := by
            rw [hlen] at hv
            injection hv with h1 h2 h3
            injection h1 with h1
            injection h1 with h1 h4
            exact ⟨h1.symm, h4.symm, h3.symm⟩
          obtain ⟨c0, c1⟩ := hcell6 p (by omega)
          rw [hole_left (by omega), ← HZ.out] at c0 c1
          have q0 := R6.cell.1
          have hlR6 := R6.lt
          have e0 : ∀ lx_ : Lat w6.heap.size w6, lx_.w.cell? ⟨R, 0, none⟩ = some (.slice (some ⟨g2, o2, none⟩) (l1.length + 1) cap2) := fun lx_ => by rw [lx_.cell _ _ hlR6]; exact q0
          have e3 : ∀ lx_ : Lat w6.heap.size w6, lx_.w.cell? ⟨g2, o2 + p * 2, none⟩ = some (.string zs) := fun lx_ => by rw [lx_.cell _ _ hgl6]; exact c0
          have e4 : ∀ lx_ : Lat w6.heap.size w6, lx_.w.cell? ⟨g2, o2 + p * 2 + 1, none⟩ = some (.int .i64 za) := fun lx_ => by rw [lx_.cell _ _ hgl6]; exact c1
          have HR6 := hid R6
          clear R6 hcell6 hv hlen c0 c1 q0 hb6 hgl hgf hlRr la
          go_upto_region 10 with fail
          refine wp_region_lat_tail 13 (by kernel_rfl) (by kernel_rfl) ?_
          simp only [List.take_succ_cons, List.take_zero, List.drop_succ_cons, List.drop_zero]
          repeat (go_big_quiet_step (fail))
          refine wpQuiet_nil ?_
          clear e0 e3 e4
          rintro w7 ⟨x7, hx7⟩
          have hb7 := x7.h
          rw [← hx7] at hb7
          clear hx7 x7
          have rk7 := HR6.out.below hb7
          obtain ⟨g3, o3, cap3, hv, -, -, hgl7, hgf7, hcell7⟩ := rk7.row.cells (by simp; omega)
          have hlen : (l1.take (p + 1) ++ y :: l1.drop (p + 1)).length = l1.length + 1 := by simp; omega
          obtain ⟨rfl, rfl, rfl⟩ : g3 = g2 ∧ o3 = o2 ∧ cap3 = cap2 := by
            rw [hlen] at hv
            injection hv with h1 h2 h3
            injection h1 with h1
            injection h1 with h1 h4
            exact ⟨h1.symm, h4.symm, h3.symm⟩
          obtain ⟨p0, p1⟩ := hcell7 (p + 1) (by omega)
          have hput := rk7.row.put (j := p + 1) (by omega) (zs, za)
          rw [HZ.out, hole_move hpl] at hput
          have RN : Hid (RefK B ((w7.setCell ⟨g3, o3 + (p + 1) * 2, none⟩ (.string zs)).setCell ⟨g3, o3 + (p + 1) * 2 + 1, none⟩ (.int .i64 za)) R (.slice (some ⟨g3, o3, none⟩) (l1.length + 1) cap3) (l1.take p ++ el l1 p :: l1.drop p)) := by
            rw [← HZ.out] at hput ⊢
            refine ⟨rk7.le, ?_, hput, by have := rk7.bs; simpa using this⟩
            rw [heap_setCell_other _ ⟨g3, _, none⟩ R _ (Ne.symm HGR.out), heap_setCell_other _ ⟨g3, _, none⟩ R _ (Ne.symm HGR.out)]
            exact rk7.blk
          have TN : Hid (Tur (FootR R (.slice A l1.length cp0)) W ((w7.setCell ⟨g3, o3 + (p + 1) * 2, none⟩ (.string zs)).setCell ⟨g3, o3 + (p + 1) * 2 + 1, none⟩ (.int .i64 za))) :=
            (T6.out.then (Tur.of_below hb7)).trans ((Tur.set (F := fun k => k = g3) _ (.inl rfl)).then (Tur.set _ (.inl rfl))) (fun i hi => by subst hi; exact FK.out _ (.inr rfl))
          have AN : Hid (((w7.setCell ⟨g3, o3 + (p + 1) * 2, none⟩ (.string zs)).setCell ⟨g3, o3 + (p + 1) * 2 + 1, none⟩ (.int .i64 za)).heap[W.heap.size]? = some (.cells #[.string s, .int .i64 t] 36 (0, 0))) := heap_set_ne (Ne.symm HGA.out) (heap_set_ne (Ne.symm HGA.out) (below_at hb7 (lt_of_at A6.out) A6.out))
          have n1 : ¬ o3 + (p + 1) * 2 = o3 + (p + 1) * 2 + 1 := by omega
          clear rk7 hput hcell7 hv hb7 hlen
          go_wp2
          go_roundw
          case rel => exact ⟨p, el l1 p, by omega, rfl, RN, TN, AN, HLT⟩
          case measure => simp [intOf]
set_option maxHeartbeats 1000000 in
theorem rset_full (B R : Nat) (v : Value) (l : List Al) (s : ByteArray) (t : Int) (w : World) (h : RefK B w R v l) (hm : l.length = 1024) (hn : hasN l s = false) :
    Calls Try.prog 25 #[.pointer (some ⟨R, 0, none⟩), .string s, .int .i64 t] w fun e w' => e = .returned (.int .i64 6) ∧ Below w.heap.size w w' := by
  have HF : Hid (∀ W, RefK B W R v l → _) := fun W hW => rfind_none B R v l s W hW (by omega) hn
  have HH := hid h
  have HM := hid hm
  clear h hm hn
  go_enter Try.func25, Try.ntmps25
  go_wp2_with fail
  refine (HF.out w HH.out).mono ?_
  rintro e w1 ⟨rfl, hb1⟩
  obtain ⟨A0, cp1, hvs1⟩ := HH.out.row.slice
  have q00 : w1.cell? ⟨R, 0, none⟩ = some (.slice A0 1024 cp1) := by rw [← HM.out, ← hvs1]; exact (HH.out.below hb1).cell.1
  have hlR0 : R < w1.heap.size := (HH.out.below hb1).lt
  have HB1 := hid hb1
  clear hb1 hvs1
  go_wp2
  go_ret
  exact ⟨rfl, HB1.out⟩
theorem rset_any (B R : Nat) (v : Value) (l : List Al) (s : ByteArray) (t : Int) (w : World) (h : RefK B w R v l) (hm : l.length ≤ 1024) (hso : Sorted l) (hd : Apart l) :
    Calls Try.prog 25 #[.pointer (some ⟨R, 0, none⟩), .string s, .int .i64 t] w fun e w' => e = .returned (.int .i64 (setE l s)) ∧ RPost B w w' R v (fun l' => SetR l s t l' ∧ Sorted l') := by
  unfold setE SetR
  cases hh : hasN l s with
  | true =>
    refine (rset_old B R v l s t w h hm hso hd hh).mono ?_
    rintro e w' ⟨rfl, v', l', q1, ⟨q2, q3, q4⟩, q5, q6⟩
    exact ⟨by simp, v', l', q1, ⟨by rw [if_neg (by simp)]; exact ⟨by simpa using q3, q4⟩, q2⟩, q5, q6⟩
  | false =>
    rcases Nat.lt_or_ge l.length 1024 with h1 | h1
    · refine (rset_new B R v l s t w h (by omega) hso hh).mono ?_
      rintro e w' ⟨rfl, v', l', q1, ⟨q2, q3, q4⟩, q5, q6⟩
      refine ⟨by simp; omega, v', l', q1, ⟨?_, q2⟩, q5, q6⟩
      rw [if_neg (by omega)]
      refine ⟨by simpa using q3, fun x => (q4 x).trans (or_congr Iff.rfl ⟨fun hx => ⟨hx, fun e => ?_⟩, fun hx => hx.1⟩)⟩
      rw [(hasN_mem l s).2 ⟨x, hx, e⟩] at hh
      cases hh
    · refine (rset_full B R v l s t w h (by omega) hh).mono ?_
      rintro e w' ⟨rfl, hb⟩
      exact ⟨by simp; omega, RPost.same h hb ⟨by rw [if_pos ⟨rfl, h1⟩], hso⟩⟩
end Go.Proofs.Ytacffoobeebleaa
