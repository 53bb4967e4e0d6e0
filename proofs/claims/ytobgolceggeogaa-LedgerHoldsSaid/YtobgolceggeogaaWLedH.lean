/- The walk of LedgerHolds: no account is used beyond its limit. Asked: that the slices hold their lists. -/
import Derived.Test.YtobgolceggeogaaLedH
namespace Go.Proofs.Ytobgolceggeogaa
open Go.RowKit
theorem meas_lt {L j : Nat} (h : j + 1 ≤ L) : L - (intOf (.int .i64 ((j : Int) + 1))).toNat < L - (intOf (.int .i64 (j : Int))).toNat := by
  simp [intOf]
  omega
set_option maxRecDepth 20000 in
set_option maxHeartbeats 8000000 in
theorem ledgerHolds_any (S0 S1 : Option Addr) (n0 n1 c0 c1 : Nat) (lim : List V) (ops : List OpD) (w : World) (h0 : SlV w S0 n0 lim) (h1 : SlO w S1 n1 ops) (hm1 : n1 ≤ maxLen) :
    Calls Try.prog 5 #[.slice S0 n0 c0, .slice S1 n1 c1] w fun e w' => e = .returned (.bool true) ∧ Below w.heap.size w w' := by
  have e0 := h0.1
  have e1 := h1.1
  subst e0 e1
  have hm' : ops.length ≤ 9223372036854775807 := by unfold maxLen at hm1; omega
  have HMO := hid hm'
  go_enter Try.func5, Try.ntmps5
  go_wp2_with fail
  refine (awake_any w).mono ?_
  rintro e w1' ⟨rfl, hb1'⟩
  have hs1' := hb1'.size
  have hfew := few_any S1 ops.length c1 ops w1' (h1.below hb1') hm1
  go_wp2_with fail
  refine hfew.mono ?_
  rintro e w1 ⟨hsb, hb1f⟩
  obtain ⟨bf, rfl⟩ := hsb
  have hb1 : Below w.heap.size w w1 := hb1'.trans (hb1f.mono hs1')
  have hs1 := hb1.size
  clear hb1f hfew hm' hm1
  cases bf
  case false =>
    go_wp2_with fail
    refine (awake_any w1).mono ?_
    rintro e w2 ⟨rfl, hb2⟩
    go_wp2
    go_ret
    exact ⟨rfl, hb1.trans (hb2.mono hs1)⟩
  by_cases g0 : (lim.length : Int) ≤ 20
  case neg =>
    go_wp2_with fail
    refine (awake_any w1).mono ?_
    rintro e w2 ⟨rfl, hb2⟩
    go_wp2
    go_ret
    exact ⟨rfl, hb1.trans (hb2.mono hs1)⟩
  go_wp2_with fail
  refine (new_b w.heap.size w1 hs1).mono ?_
  rintro e w2 ⟨rfl, hb2, hL2⟩
  have B2 : Below w.heap.size w w2 := hb1.trans (hb2.mono hs1)
  have hs2 := B2.size
  have HB : Hid (lim.length ≤ 20) := by unfold Hid; omega
  have H0 := hid h0
  have H1 := hid h1
  have HL2 := hid hL2
  have hL1 : w1.heap.size < w2.heap.size := hL2.lt
  rename (lim.length : Int) ≤ 20 => g20
  clear h0 h1 hL2 hb2 g0 g20
  go_wp2
  go_loopw [6] (fun i wr => ∃ (k n : Nat) (A : Acc), k ≤ lim.length ∧ i = .int .i64 k ∧ Hid (LedB w.heap.size wr w1.heap.size n A) ∧ Hid (GoodTo A lim k ∧ n ≤ k) ∧ Below w.heap.size w wr) (fun i _ => lim.length - (intOf i).toNat)
  case atStart => exact ⟨0, 0, noA, Nat.zero_le _, rfl, HL2, ⟨good_none lim, Nat.le_refl _⟩, B2⟩
  case round =>
    obtain ⟨k, n, A, hk, rfl, hL, hgd, hbel⟩ := hrel
    have hsr := hbel.size
    by_cases hkl : k < lim.length
    · have hk20 : k < 20 := by have := HB.out; omega
      have hcv := fun W => conv_nm k hk20 W
      have R1 : Hid (k + 1 ≤ lim.length) := hkl
      have M1 : Hid (lim.length - (k + 1) < lim.length - k) := by unfold Hid; omega
      have hk32 : (k : Int) ≤ 20 := by omega
      have hg2 := hgd.out.1.open_ HB.out hkl hgd.out.2
      obtain ⟨-, rfl | ⟨g, off, rfl, hg, hh⟩⟩ := H0.out.below hbel
      · simp at hkl
      · have hv := hh k hkl
        generalize lim[k] = v at hv hg2
        obtain ⟨x0, x1, x2, x3⟩ := v
        obtain ⟨v0, v1, v2, v3⟩ := hv
        have HG2 := hid hg2
        clear hh hk20 hk hg2
        go_wp2_with fail
        refine (open_b w.heap.size w1.heap.size n A (nmI k) x0 x1 x2 x3 wr hsr hL.out (nmI_size k)).mono ?_
        rintro e w4 ⟨rfl, hL4, hB4, -⟩
        have B4 : Below w.heap.size w w4 := hbel.trans hB4
        have HL4 := hid hL4
        clear hL4 hB4 v0 v1 v2 v3 hcv
        go_wp2
        go_roundw
        case rel => exact ⟨k + 1, _, _, R1.out, by go_num, HL4, HG2, B4⟩
        case measure =>
          have := M1.out
          simp [intOf]
          omega
    · obtain rfl : k = lim.length := by omega
      have HGD : Hid (GoodTo A lim lim.length) := hgd.out.1
      have hLlt := hL.out.lt
      clear hkl hk hgd
      go_wp2
      go_loopw [7] (fun i wr => ∃ (j : Nat) (A : Acc), j ≤ ops.length ∧ i = .int .i64 j ∧ Hid (LedB w.heap.size wr w1.heap.size n A) ∧ Hid (GoodTo A lim lim.length) ∧ Below w.heap.size w wr) (fun i _ => ops.length - (intOf i).toNat)
      case atStart => exact ⟨0, A, Nat.zero_le _, rfl, hL, HGD, hbel⟩
      case round =>
        clear hL HGD hLlt
        rename_i wo_ _ _ _
        obtain ⟨j, A1, hj, rfl, hL, HGD, hbel2⟩ := hrel
        have hsr2 := hbel2.size
        have HJ : Hid (j < ops.length → (j : Int) ≤ 9223372036854775806) := by have := HMO.out; unfold Hid; omega
        by_cases hjl : j < ops.length
        · obtain ⟨-, rfl | ⟨g, off, rfl, hg, hh⟩⟩ := H1.out.below hbel2
          · simp at hjl
          · have hv := hh j hjl
            generalize ops[j] = o at hv
            obtain ⟨kd, nam, vv_, sl, sn, scap, sll⟩ := o
            obtain ⟨v0, -, -, -, -, -, v6, -, hsl, hslm⟩ := hv
            simp only at v0 v6 hsl hslm
            have R0 : Hid (j + 1 ≤ ops.length) := hjl
            have M0 : Hid (ops.length - (j + 1) < ops.length - j) := by unfold Hid; omega
            have HSLM := hid hslm
            clear hh hj hslm
            by_cases hk5 : kd = 5
            · subst hk5
              go_wp2_with fail
              refine (take_b w.heap.size w1.heap.size n A1 sl sn scap sll wr hsr2 hL.out HSLM.out hsl).mono ?_
              rintro e wi ⟨rfl, hLi, hBi, -⟩
              have BI : Below w.heap.size w wi := hbel2.trans hBi
              have hsi := BI.size
              have HGI : Hid (GoodTo (takeR A1 sll) lim lim.length) := HGD.out.take sll
              obtain ⟨A2, hA2⟩ : ∃ A2, A2 = takeR A1 sll := ⟨_, rfl⟩
              rw [← hA2] at hLi HGI
              have HLI := hid hLi
              clear hLi hBi v0 v6 hsl hA2 hjl
              go_wp2
              go_loopw [8] (fun i wr => ∃ k : Nat, k ≤ lim.length ∧ i = .int .i64 k ∧ Below wi.heap.size wi wr) (fun i _ => lim.length - (intOf i).toNat)
              case atStart => exact ⟨0, Nat.zero_le _, rfl, Below.refl _ _⟩
              case round =>
                obtain ⟨k, hk, rfl, hbel⟩ := hrel
                have hsr := hbel.size
                by_cases hkl : k < lim.length
                · have hk20 : k < 20 := by have := HB.out; omega
                  have hcv := fun W => conv_nm k hk20 W
                  have hLr := HLI.out.below hbel
                  have Br : Below w.heap.size w wr := BI.trans (hbel.mono hsi)
                  have R1 : Hid (k + 1 ≤ lim.length) := hkl
                  have M1 : Hid (lim.length - (k + 1) < lim.length - k) := by unfold Hid; omega
                  have hk32 : (k : Int) ≤ 20 := by omega
                  have hinv := HLI.out.2.1
                  obtain ⟨hgo, hgn⟩ := HGI.out k hkl
                  obtain ⟨-, rfl | ⟨g, off, rfl, hg, hh⟩⟩ := H0.out.below Br
                  · simp at hkl
                  · have hv := hh k hkl
                    generalize lim[k] = v at hv hgo hgn
                    obtain ⟨x0, x1, x2, x3⟩ := v
                    obtain ⟨v0, v1, v2, v3⟩ := hv
                    clear hh hk20 hk
                    go_wp2_with fail
                    refine (used_b w.heap.size w1.heap.size n A2 (nmI k) wr hLr (nmI_size k)).mono ?_
                    rintro e w5 ⟨rfl, hb5⟩
                    have hs5 := hb5.size
                    have B5 : Below wi.heap.size wi w5 := hbel.trans (hb5.mono hsr)
                    have hg5 : g < w5.heap.size := Nat.lt_of_lt_of_le hg hs5
                    have c0 : w5.cell? ⟨g, off + k * 4, none⟩ = some (.int .i64 x0) := by rw [hb5.cell hg]; exact v0
                    have c1 : w5.cell? ⟨g, off + k * 4 + 1, none⟩ = some (.int .i64 x1) := by rw [hb5.cell hg]; exact v1
                    have c2 : w5.cell? ⟨g, off + k * 4 + 2, none⟩ = some (.int .i64 x2) := by rw [hb5.cell hg]; exact v2
                    have c3 : w5.cell? ⟨g, off + k * 4 + 3, none⟩ = some (.int .i64 x3) := by rw [hb5.cell hg]; exact v3
                    have hs15 := B5.size
                    clear v0 v1 v2 v3 hb5 hLr
                    cases hok : okV (x0, x1, x2, x3) with
                    | true =>
                      obtain ⟨u, hA, hfit⟩ := hgo hkl hok
                      have hoku := (hinv _ _ hA).2
                      rw [show usedOf A2 (nmI k).data.toList = u by simp [usedOf, hA], hA]
                      simp only [Option.isSome_some, if_true]
                      obtain ⟨u0, u1, u2, u3⟩ := u
                      unfold vv
                      dsimp only
                      clear hinv hgo hgn
                      go_upto_region 20 with fail
                      refine wp_name ?_
                      intro w6 hw6
                      have X6 : w6.heap[w5.heap.size]? = some (.cells #[.int .i64 u0, .int .i64 u1, .int .i64 u2, .int .i64 u3] 29 (0, 0)) := by rw [hw6]; exact (by (repeat (first | (with_reducible assumption) | (with_reducible exact alloc_at _ _) | ((with_reducible apply alloc_at'); (simp; done)) | (with_reducible apply alloc_at_lt) | (with_reducible apply heap_drew_at) | (with_reducible apply heap_drewN_at) | (with_reducible apply heap_setCell_same) | ((with_reducible apply heap_set_ne); (first | omega | (dsimp only; omega) | (simp; done) | (simp; omega))) | (with_reducible apply setRow_at) | ((with_reducible apply setRow_ne); (first | omega | (dsimp only; omega) | (simp; done) | (simp; omega))))))
                      have B6 : Below w5.heap.size w5 w6 := by rw [hw6]; exact (by repeat (first | with_reducible assumption | with_reducible exact Below.refl _ _ | with_reducible refine Below.drew ?_ | with_reducible refine below_drewN ?_ _ | with_reducible refine below_alloc ?_ _ | with_reducible refine Below.alloc ?_ (by first | omega | (simp; done) | (simp; omega)) _ | with_reducible refine Below.setCell ?_ (by first | omega | (simp; done) | (simp; omega)) _ | with_reducible refine below_setRow ?_ (by first | omega | (simp; done) | (simp; omega)) _))
                      have S6 := lt_of_at X6
                      have hg6 : g < w6.heap.size := Nat.lt_of_lt_of_le hg5 B6.size
                      clear hw6
                      have f0 : ∀ lx_ : Lat w6.heap.size w6, lx_.w.cell? ⟨g, off + k * 4, none⟩ = some (.int .i64 x0) := fun lx_ => by rw [lx_.cell _ _ hg6, B6.cell hg5]; exact c0
                      have d0 : ∀ lx_ : Lat w6.heap.size w6, lx_.w.cell? ⟨w5.heap.size, 0, none⟩ = some (.int .i64 u0) := fun lx_ => by rw [lx_.cell _ _ S6]; exact (blk_cell X6 0).trans rfl
                      have f1 : ∀ lx_ : Lat w6.heap.size w6, lx_.w.cell? ⟨g, off + k * 4 + 1, none⟩ = some (.int .i64 x1) := fun lx_ => by rw [lx_.cell _ _ hg6, B6.cell hg5]; exact c1
                      have d1 : ∀ lx_ : Lat w6.heap.size w6, lx_.w.cell? ⟨w5.heap.size, 1, none⟩ = some (.int .i64 u1) := fun lx_ => by rw [lx_.cell _ _ S6]; exact (blk_cell X6 1).trans rfl
                      have f2 : ∀ lx_ : Lat w6.heap.size w6, lx_.w.cell? ⟨g, off + k * 4 + 2, none⟩ = some (.int .i64 x2) := fun lx_ => by rw [lx_.cell _ _ hg6, B6.cell hg5]; exact c2
                      have d2 : ∀ lx_ : Lat w6.heap.size w6, lx_.w.cell? ⟨w5.heap.size, 2, none⟩ = some (.int .i64 u2) := fun lx_ => by rw [lx_.cell _ _ S6]; exact (blk_cell X6 2).trans rfl
                      have f3 : ∀ lx_ : Lat w6.heap.size w6, lx_.w.cell? ⟨g, off + k * 4 + 3, none⟩ = some (.int .i64 x3) := fun lx_ => by rw [lx_.cell _ _ hg6, B6.cell hg5]; exact c3
                      have d3 : ∀ lx_ : Lat w6.heap.size w6, lx_.w.cell? ⟨w5.heap.size, 3, none⟩ = some (.int .i64 u3) := fun lx_ => by rw [lx_.cell _ _ S6]; exact (blk_cell X6 3).trans rfl
                      have hF1 : ∀ W, Calls Try.prog 22 #[Value.agg #[Value.int IntKind.i64 x0, Value.int IntKind.i64 x1, Value.int IntKind.i64 x2, Value.int IntKind.i64 x3]] W fun e w' => e = .returned (.bool true) ∧ Below W.heap.size W w' := fun W => by have h := rformed_any x0 x1 x2 x3 W; rw [show formedB x0 x1 x2 x3 = true from hok] at h; exact h
                      have hF2 : ∀ W, Calls Try.prog 22 #[Value.agg #[Value.int IntKind.i64 u0, Value.int IntKind.i64 u1, Value.int IntKind.i64 u2, Value.int IntKind.i64 u3]] W fun e w' => e = .returned (.bool true) ∧ Below W.heap.size W w' := fun W => by have h := rformed_any u0 u1 u2 u3 W; rw [show formedB u0 u1 u2 u3 = true from hoku] at h; exact h
                      have hF3 : ∀ W, Calls Try.prog 23 #[Value.agg #[Value.int IntKind.i64 u0, Value.int IntKind.i64 u1, Value.int IntKind.i64 u2, Value.int IntKind.i64 u3], Value.agg #[Value.int IntKind.i64 x0, Value.int IntKind.i64 x1, Value.int IntKind.i64 x2, Value.int IntKind.i64 x3]] W fun e w' => e = .returned (.bool true) ∧ Below W.heap.size W w' := fun W => by have h := rfits_any u0 u1 u2 u3 x0 x1 x2 x3 W; rw [show fitsB u0 u1 u2 u3 x0 x1 x2 x3 = true from hfit] at h; exact h
                      refine wp_region_lat (by kernel_rfl) (by kernel_rfl) ?_
                      repeat (go_big_quiet_step (first | (go_at_call_of 22 (Value.agg #[Value.int IntKind.i64 x0, Value.int IntKind.i64 x1, Value.int IntKind.i64 x2, Value.int IntKind.i64 x3]); exact lat_of (Nat.le_refl _) (hF1 _)) | (go_at_call_of 22 (Value.agg #[Value.int IntKind.i64 u0, Value.int IntKind.i64 u1, Value.int IntKind.i64 u2, Value.int IntKind.i64 u3]); exact lat_of (Nat.le_refl _) (hF2 _)) | (go_at_call 23; exact lat_of (Nat.le_refl _) (hF3 _))))
                      refine wpQuiet_nil ?_
                      rintro w7 ⟨x7, hx7⟩
                      have hb7 := x7.h
                      rw [← hx7] at hb7
                      clear hx7 x7 f0 f1 f2 f3 d0 d1 d2 d3 c0 c1 c2 c3
                      have B7 : Below wi.heap.size wi w7 := (B5.trans (B6.mono hs15)).trans (hb7.mono (Nat.le_trans hs15 B6.size))
                      clear hb7 X6 B6
                      go_wp2
                      go_roundw
                      case rel => exact ⟨k + 1, R1.out, by go_num, B7⟩
                      case measure =>
                        have := M1.out
                        simp [intOf]
                        omega
                    | false =>
                      have hA := hgn (fun h => by rw [hok] at h; cases h.2)
                      obtain ⟨u, hu⟩ : ∃ u, u = usedOf A2 (nmI k).data.toList := ⟨_, rfl⟩
                      rw [← hu, hA]
                      simp only [Option.isSome_none, Bool.false_eq_true, if_false]
                      clear hu
                      obtain ⟨u0, u1, u2, u3⟩ := u
                      unfold vv
                      dsimp only
                      clear hinv hgo hgn
                      go_upto_region 20 with fail
                      refine wp_name ?_
                      intro w6 hw6
                      have X6 : w6.heap[w5.heap.size]? = some (.cells #[.int .i64 u0, .int .i64 u1, .int .i64 u2, .int .i64 u3] 29 (0, 0)) := by rw [hw6]; exact (by (repeat (first | (with_reducible assumption) | (with_reducible exact alloc_at _ _) | ((with_reducible apply alloc_at'); (simp; done)) | (with_reducible apply alloc_at_lt) | (with_reducible apply heap_drew_at) | (with_reducible apply heap_drewN_at) | (with_reducible apply heap_setCell_same) | ((with_reducible apply heap_set_ne); (first | omega | (dsimp only; omega) | (simp; done) | (simp; omega))) | (with_reducible apply setRow_at) | ((with_reducible apply setRow_ne); (first | omega | (dsimp only; omega) | (simp; done) | (simp; omega))))))
                      have B6 : Below w5.heap.size w5 w6 := by rw [hw6]; exact (by repeat (first | with_reducible assumption | with_reducible exact Below.refl _ _ | with_reducible refine Below.drew ?_ | with_reducible refine below_drewN ?_ _ | with_reducible refine below_alloc ?_ _ | with_reducible refine Below.alloc ?_ (by first | omega | (simp; done) | (simp; omega)) _ | with_reducible refine Below.setCell ?_ (by first | omega | (simp; done) | (simp; omega)) _ | with_reducible refine below_setRow ?_ (by first | omega | (simp; done) | (simp; omega)) _))
                      have S6 := lt_of_at X6
                      have hg6 : g < w6.heap.size := Nat.lt_of_lt_of_le hg5 B6.size
                      clear hw6
                      have f0 : ∀ lx_ : Lat w6.heap.size w6, lx_.w.cell? ⟨g, off + k * 4, none⟩ = some (.int .i64 x0) := fun lx_ => by rw [lx_.cell _ _ hg6, B6.cell hg5]; exact c0
                      have d0 : ∀ lx_ : Lat w6.heap.size w6, lx_.w.cell? ⟨w5.heap.size, 0, none⟩ = some (.int .i64 u0) := fun lx_ => by rw [lx_.cell _ _ S6]; exact (blk_cell X6 0).trans rfl
                      have f1 : ∀ lx_ : Lat w6.heap.size w6, lx_.w.cell? ⟨g, off + k * 4 + 1, none⟩ = some (.int .i64 x1) := fun lx_ => by rw [lx_.cell _ _ hg6, B6.cell hg5]; exact c1
                      have d1 : ∀ lx_ : Lat w6.heap.size w6, lx_.w.cell? ⟨w5.heap.size, 1, none⟩ = some (.int .i64 u1) := fun lx_ => by rw [lx_.cell _ _ S6]; exact (blk_cell X6 1).trans rfl
                      have f2 : ∀ lx_ : Lat w6.heap.size w6, lx_.w.cell? ⟨g, off + k * 4 + 2, none⟩ = some (.int .i64 x2) := fun lx_ => by rw [lx_.cell _ _ hg6, B6.cell hg5]; exact c2
                      have d2 : ∀ lx_ : Lat w6.heap.size w6, lx_.w.cell? ⟨w5.heap.size, 2, none⟩ = some (.int .i64 u2) := fun lx_ => by rw [lx_.cell _ _ S6]; exact (blk_cell X6 2).trans rfl
                      have f3 : ∀ lx_ : Lat w6.heap.size w6, lx_.w.cell? ⟨g, off + k * 4 + 3, none⟩ = some (.int .i64 x3) := fun lx_ => by rw [lx_.cell _ _ hg6, B6.cell hg5]; exact c3
                      have d3 : ∀ lx_ : Lat w6.heap.size w6, lx_.w.cell? ⟨w5.heap.size, 3, none⟩ = some (.int .i64 u3) := fun lx_ => by rw [lx_.cell _ _ S6]; exact (blk_cell X6 3).trans rfl
                      have hF1 : ∀ W, Calls Try.prog 22 #[Value.agg #[Value.int IntKind.i64 x0, Value.int IntKind.i64 x1, Value.int IntKind.i64 x2, Value.int IntKind.i64 x3]] W fun e w' => e = .returned (.bool false) ∧ Below W.heap.size W w' := fun W => by have h := rformed_any x0 x1 x2 x3 W; rw [show formedB x0 x1 x2 x3 = false from hok] at h; exact h
                      refine wp_region_lat (by kernel_rfl) (by kernel_rfl) ?_
                      repeat (go_big_quiet_step (first | (go_at_call_of 22 (Value.agg #[Value.int IntKind.i64 x0, Value.int IntKind.i64 x1, Value.int IntKind.i64 x2, Value.int IntKind.i64 x3]); exact lat_of (Nat.le_refl _) (hF1 _))))
                      refine wpQuiet_nil ?_
                      rintro w7 ⟨x7, hx7⟩
                      have hb7 := x7.h
                      rw [← hx7] at hb7
                      clear hx7 x7 f0 f1 f2 f3 d0 d1 d2 d3 c0 c1 c2 c3
                      have B7 : Below wi.heap.size wi w7 := (B5.trans (B6.mono hs15)).trans (hb7.mono (Nat.le_trans hs15 B6.size))
                      clear hb7 X6 B6
                      go_wp2
                      go_roundw
                      case rel => exact ⟨k + 1, R1.out, by go_num, B7⟩
                      case measure =>
                        have := M1.out
                        simp [intOf]
                        omega
                · obtain rfl : k = lim.length := by omega
                  clear hkl hk
                  have hj63 := HJ.out R0.out
                  go_wp2
                  go_roundw
                  case rel => exact ⟨j + 1, A2, R0.out, by go_num, HLI.out.below hbel, HGI, BI.trans (hbel.mono hsi)⟩
                  case measure => exact meas_lt R0.out
            · by_cases hk6 : kd = 6
              · subst hk6
                go_wp2_with fail
                refine (give_b w.heap.size w1.heap.size n A1 sl sn scap sll wr hsr2 hL.out HSLM.out hsl).mono ?_
                rintro e wi ⟨rfl, hLi, hBi, -⟩
                have BI : Below w.heap.size w wi := hbel2.trans hBi
                have hsi := BI.size
                have HGI : Hid (GoodTo (giveR A1 sll) lim lim.length) := HGD.out.give sll
                obtain ⟨A2, hA2⟩ : ∃ A2, A2 = giveR A1 sll := ⟨_, rfl⟩
                rw [← hA2] at hLi HGI
                have HLI := hid hLi
                clear hLi hBi v0 v6 hsl hA2 hjl
                go_wp2
                go_loopw [8] (fun i wr => ∃ k : Nat, k ≤ lim.length ∧ i = .int .i64 k ∧ Below wi.heap.size wi wr) (fun i _ => lim.length - (intOf i).toNat)
                case atStart => exact ⟨0, Nat.zero_le _, rfl, Below.refl _ _⟩
                case round =>
                  obtain ⟨k, hk, rfl, hbel⟩ := hrel
                  have hsr := hbel.size
                  by_cases hkl : k < lim.length
                  · have hk20 : k < 20 := by have := HB.out; omega
                    have hcv := fun W => conv_nm k hk20 W
                    have hLr := HLI.out.below hbel
                    have Br : Below w.heap.size w wr := BI.trans (hbel.mono hsi)
                    have R1 : Hid (k + 1 ≤ lim.length) := hkl
                    have M1 : Hid (lim.length - (k + 1) < lim.length - k) := by unfold Hid; omega
                    have hk32 : (k : Int) ≤ 20 := by omega
                    have hinv := HLI.out.2.1
                    obtain ⟨hgo, hgn⟩ := HGI.out k hkl
                    obtain ⟨-, rfl | ⟨g, off, rfl, hg, hh⟩⟩ := H0.out.below Br
                    · simp at hkl
                    · have hv := hh k hkl
                      generalize lim[k] = v at hv hgo hgn
                      obtain ⟨x0, x1, x2, x3⟩ := v
                      obtain ⟨v0, v1, v2, v3⟩ := hv
                      clear hh hk20 hk
                      go_wp2_with fail
                      refine (used_b w.heap.size w1.heap.size n A2 (nmI k) wr hLr (nmI_size k)).mono ?_
                      rintro e w5 ⟨rfl, hb5⟩
                      have hs5 := hb5.size
                      have B5 : Below wi.heap.size wi w5 := hbel.trans (hb5.mono hsr)
                      have hg5 : g < w5.heap.size := Nat.lt_of_lt_of_le hg hs5
                      have c0 : w5.cell? ⟨g, off + k * 4, none⟩ = some (.int .i64 x0) := by rw [hb5.cell hg]; exact v0
                      have c1 : w5.cell? ⟨g, off + k * 4 + 1, none⟩ = some (.int .i64 x1) := by rw [hb5.cell hg]; exact v1
                      have c2 : w5.cell? ⟨g, off + k * 4 + 2, none⟩ = some (.int .i64 x2) := by rw [hb5.cell hg]; exact v2
                      have c3 : w5.cell? ⟨g, off + k * 4 + 3, none⟩ = some (.int .i64 x3) := by rw [hb5.cell hg]; exact v3
                      have hs15 := B5.size
                      clear v0 v1 v2 v3 hb5 hLr
                      cases hok : okV (x0, x1, x2, x3) with
                      | true =>
                        obtain ⟨u, hA, hfit⟩ := hgo hkl hok
                        have hoku := (hinv _ _ hA).2
                        rw [show usedOf A2 (nmI k).data.toList = u by simp [usedOf, hA], hA]
                        simp only [Option.isSome_some, if_true]
                        obtain ⟨u0, u1, u2, u3⟩ := u
                        unfold vv
                        dsimp only
                        clear hinv hgo hgn
                        go_upto_region 20 with fail
                        refine wp_name ?_
                        intro w6 hw6
                        have X6 : w6.heap[w5.heap.size]? = some (.cells #[.int .i64 u0, .int .i64 u1, .int .i64 u2, .int .i64 u3] 29 (0, 0)) := by rw [hw6]; exact (by (repeat (first | (with_reducible assumption) | (with_reducible exact alloc_at _ _) | ((with_reducible apply alloc_at'); (simp; done)) | (with_reducible apply alloc_at_lt) | (with_reducible apply heap_drew_at) | (with_reducible apply heap_drewN_at) | (with_reducible apply heap_setCell_same) | ((with_reducible apply heap_set_ne); (first | omega | (dsimp only; omega) | (simp; done) | (simp; omega))) | (with_reducible apply setRow_at) | ((with_reducible apply setRow_ne); (first | omega | (dsimp only; omega) | (simp; done) | (simp; omega))))))
                        have B6 : Below w5.heap.size w5 w6 := by rw [hw6]; exact (by repeat (first | with_reducible assumption | with_reducible exact Below.refl _ _ | with_reducible refine Below.drew ?_ | with_reducible refine below_drewN ?_ _ | with_reducible refine below_alloc ?_ _ | with_reducible refine Below.alloc ?_ (by first | omega | (simp; done) | (simp; omega)) _ | with_reducible refine Below.setCell ?_ (by first | omega | (simp; done) | (simp; omega)) _ | with_reducible refine below_setRow ?_ (by first | omega | (simp; done) | (simp; omega)) _))
                        have S6 := lt_of_at X6
                        have hg6 : g < w6.heap.size := Nat.lt_of_lt_of_le hg5 B6.size
                        clear hw6
                        have f0 : ∀ lx_ : Lat w6.heap.size w6, lx_.w.cell? ⟨g, off + k * 4, none⟩ = some (.int .i64 x0) := fun lx_ => by rw [lx_.cell _ _ hg6, B6.cell hg5]; exact c0
                        have d0 : ∀ lx_ : Lat w6.heap.size w6, lx_.w.cell? ⟨w5.heap.size, 0, none⟩ = some (.int .i64 u0) := fun lx_ => by rw [lx_.cell _ _ S6]; exact (blk_cell X6 0).trans rfl
                        have f1 : ∀ lx_ : Lat w6.heap.size w6, lx_.w.cell? ⟨g, off + k * 4 + 1, none⟩ = some (.int .i64 x1) := fun lx_ => by rw [lx_.cell _ _ hg6, B6.cell hg5]; exact c1
                        have d1 : ∀ lx_ : Lat w6.heap.size w6, lx_.w.cell? ⟨w5.heap.size, 1, none⟩ = some (.int .i64 u1) := fun lx_ => by rw [lx_.cell _ _ S6]; exact (blk_cell X6 1).trans rfl
                        have f2 : ∀ lx_ : Lat w6.heap.size w6, lx_.w.cell? ⟨g, off + k * 4 + 2, none⟩ = some (.int .i64 x2) := fun lx_ => by rw [lx_.cell _ _ hg6, B6.cell hg5]; exact c2
                        have d2 : ∀ lx_ : Lat w6.heap.size w6, lx_.w.cell? ⟨w5.heap.size, 2, none⟩ = some (.int .i64 u2) := fun lx_ => by rw [lx_.cell _ _ S6]; exact (blk_cell X6 2).trans rfl
                        have f3 : ∀ lx_ : Lat w6.heap.size w6, lx_.w.cell? ⟨g, off + k * 4 + 3, none⟩ = some (.int .i64 x3) := fun lx_ => by rw [lx_.cell _ _ hg6, B6.cell hg5]; exact c3
                        have d3 : ∀ lx_ : Lat w6.heap.size w6, lx_.w.cell? ⟨w5.heap.size, 3, none⟩ = some (.int .i64 u3) := fun lx_ => by rw [lx_.cell _ _ S6]; exact (blk_cell X6 3).trans rfl
                        have hF1 : ∀ W, Calls Try.prog 22 #[Value.agg #[Value.int IntKind.i64 x0, Value.int IntKind.i64 x1, Value.int IntKind.i64 x2, Value.int IntKind.i64 x3]] W fun e w' => e = .returned (.bool true) ∧ Below W.heap.size W w' := fun W => by have h := rformed_any x0 x1 x2 x3 W; rw [show formedB x0 x1 x2 x3 = true from hok] at h; exact h
                        have hF2 : ∀ W, Calls Try.prog 22 #[Value.agg #[Value.int IntKind.i64 u0, Value.int IntKind.i64 u1, Value.int IntKind.i64 u2, Value.int IntKind.i64 u3]] W fun e w' => e = .returned (.bool true) ∧ Below W.heap.size W w' := fun W => by have h := rformed_any u0 u1 u2 u3 W; rw [show formedB u0 u1 u2 u3 = true from hoku] at h; exact h
                        have hF3 : ∀ W, Calls Try.prog 23 #[Value.agg #[Value.int IntKind.i64 u0, Value.int IntKind.i64 u1, Value.int IntKind.i64 u2, Value.int IntKind.i64 u3], Value.agg #[Value.int IntKind.i64 x0, Value.int IntKind.i64 x1, Value.int IntKind.i64 x2, Value.int IntKind.i64 x3]] W fun e w' => e = .returned (.bool true) ∧ Below W.heap.size W w' := fun W => by have h := rfits_any u0 u1 u2 u3 x0 x1 x2 x3 W; rw [show fitsB u0 u1 u2 u3 x0 x1 x2 x3 = true from hfit] at h; exact h
                        refine wp_region_lat (by kernel_rfl) (by kernel_rfl) ?_
                        repeat (go_big_quiet_step (first | (go_at_call_of 22 (Value.agg #[Value.int IntKind.i64 x0, Value.int IntKind.i64 x1, Value.int IntKind.i64 x2, Value.int IntKind.i64 x3]); exact lat_of (Nat.le_refl _) (hF1 _)) | (go_at_call_of 22 (Value.agg #[Value.int IntKind.i64 u0, Value.int IntKind.i64 u1, Value.int IntKind.i64 u2, Value.int IntKind.i64 u3]); exact lat_of (Nat.le_refl _) (hF2 _)) | (go_at_call 23; exact lat_of (Nat.le_refl _) (hF3 _))))
                        refine wpQuiet_nil ?_
                        rintro w7 ⟨x7, hx7⟩
                        have hb7 := x7.h
                        rw [← hx7] at hb7
                        clear hx7 x7 f0 f1 f2 f3 d0 d1 d2 d3 c0 c1 c2 c3
                        have B7 : Below wi.heap.size wi w7 := (B5.trans (B6.mono hs15)).trans (hb7.mono (Nat.le_trans hs15 B6.size))
                        clear hb7 X6 B6
                        go_wp2
                        go_roundw
                        case rel => exact ⟨k + 1, R1.out, by go_num, B7⟩
                        case measure =>
                          have := M1.out
                          simp [intOf]
                          omega
                      | false =>
                        have hA := hgn (fun h => by rw [hok] at h; cases h.2)
                        obtain ⟨u, hu⟩ : ∃ u, u = usedOf A2 (nmI k).data.toList := ⟨_, rfl⟩
                        rw [← hu, hA]
                        simp only [Option.isSome_none, Bool.false_eq_true, if_false]
                        clear hu
                        obtain ⟨u0, u1, u2, u3⟩ := u
                        unfold vv
                        dsimp only
                        clear hinv hgo hgn
                        go_upto_region 20 with fail
                        refine wp_name ?_
                        intro w6 hw6
                        have X6 : w6.heap[w5.heap.size]? = some (.cells #[.int .i64 u0, .int .i64 u1, .int .i64 u2, .int .i64 u3] 29 (0, 0)) := by rw [hw6]; exact (by (repeat (first | (with_reducible assumption) | (with_reducible exact alloc_at _ _) | ((with_reducible apply alloc_at'); (simp; done)) | (with_reducible apply alloc_at_lt) | (with_reducible apply heap_drew_at) | (with_reducible apply heap_drewN_at) | (with_reducible apply heap_setCell_same) | ((with_reducible apply heap_set_ne); (first | omega | (dsimp only; omega) | (simp; done) | (simp; omega))) | (with_reducible apply setRow_at) | ((with_reducible apply setRow_ne); (first | omega | (dsimp only; omega) | (simp; done) | (simp; omega))))))
                        have B6 : Below w5.heap.size w5 w6 := by rw [hw6]; exact (by repeat (first | with_reducible assumption | with_reducible exact Below.refl _ _ | with_reducible refine Below.drew ?_ | with_reducible refine below_drewN ?_ _ | with_reducible refine below_alloc ?_ _ | with_reducible refine Below.alloc ?_ (by first | omega | (simp; done) | (simp; omega)) _ | with_reducible refine Below.setCell ?_ (by first | omega | (simp; done) | (simp; omega)) _ | with_reducible refine below_setRow ?_ (by first | omega | (simp; done) | (simp; omega)) _))
                        have S6 := lt_of_at X6
                        have hg6 : g < w6.heap.size := Nat.lt_of_lt_of_le hg5 B6.size
                        clear hw6
                        have f0 : ∀ lx_ : Lat w6.heap.size w6, lx_.w.cell? ⟨g, off + k * 4, none⟩ = some (.int .i64 x0) := fun lx_ => by rw [lx_.cell _ _ hg6, B6.cell hg5]; exact c0
                        have d0 : ∀ lx_ : Lat w6.heap.size w6, lx_.w.cell? ⟨w5.heap.size, 0, none⟩ = some (.int .i64 u0) := fun lx_ => by rw [lx_.cell _ _ S6]; exact (blk_cell X6 0).trans rfl
                        have f1 : ∀ lx_ : Lat w6.heap.size w6, lx_.w.cell? ⟨g, off + k * 4 + 1, none⟩ = some (.int .i64 x1) := fun lx_ => by rw [lx_.cell _ _ hg6, B6.cell hg5]; exact c1
                        have d1 : ∀ lx_ : Lat w6.heap.size w6, lx_.w.cell? ⟨w5.heap.size, 1, none⟩ = some (.int .i64 u1) := fun lx_ => by rw [lx_.cell _ _ S6]; exact (blk_cell X6 1).trans rfl
                        have f2 : ∀ lx_ : Lat w6.heap.size w6, lx_.w.cell? ⟨g, off + k * 4 + 2, none⟩ = some (.int .i64 x2) := fun lx_ => by rw [lx_.cell _ _ hg6, B6.cell hg5]; exact c2
                        have d2 : ∀ lx_ : Lat w6.heap.size w6, lx_.w.cell? ⟨w5.heap.size, 2, none⟩ = some (.int .i64 u2) := fun lx_ => by rw [lx_.cell _ _ S6]; exact (blk_cell X6 2).trans rfl
                        have f3 : ∀ lx_ : Lat w6.heap.size w6, lx_.w.cell? ⟨g, off + k * 4 + 3, none⟩ = some (.int .i64 x3) := fun lx_ => by rw [lx_.cell _ _ hg6, B6.cell hg5]; exact c3
                        have d3 : ∀ lx_ : Lat w6.heap.size w6, lx_.w.cell? ⟨w5.heap.size, 3, none⟩ = some (.int .i64 u3) := fun lx_ => by rw [lx_.cell _ _ S6]; exact (blk_cell X6 3).trans rfl
                        have hF1 : ∀ W, Calls Try.prog 22 #[Value.agg #[Value.int IntKind.i64 x0, Value.int IntKind.i64 x1, Value.int IntKind.i64 x2, Value.int IntKind.i64 x3]] W fun e w' => e = .returned (.bool false) ∧ Below W.heap.size W w' := fun W => by have h := rformed_any x0 x1 x2 x3 W; rw [show formedB x0 x1 x2 x3 = false from hok] at h; exact h
                        refine wp_region_lat (by kernel_rfl) (by kernel_rfl) ?_
                        repeat (go_big_quiet_step (first | (go_at_call_of 22 (Value.agg #[Value.int IntKind.i64 x0, Value.int IntKind.i64 x1, Value.int IntKind.i64 x2, Value.int IntKind.i64 x3]); exact lat_of (Nat.le_refl _) (hF1 _))))
                        refine wpQuiet_nil ?_
                        rintro w7 ⟨x7, hx7⟩
                        have hb7 := x7.h
                        rw [← hx7] at hb7
                        clear hx7 x7 f0 f1 f2 f3 d0 d1 d2 d3 c0 c1 c2 c3
                        have B7 : Below wi.heap.size wi w7 := (B5.trans (B6.mono hs15)).trans (hb7.mono (Nat.le_trans hs15 B6.size))
                        clear hb7 X6 B6
                        go_wp2
                        go_roundw
                        case rel => exact ⟨k + 1, R1.out, by go_num, B7⟩
                        case measure =>
                          have := M1.out
                          simp [intOf]
                          omega
                  · obtain rfl : k = lim.length := by omega
                    clear hkl hk
                    have hj63 := HJ.out R0.out
                    go_wp2
                    go_roundw
                    case rel => exact ⟨j + 1, A2, R0.out, by go_num, HLI.out.below hbel, HGI, BI.trans (hbel.mono hsi)⟩
                    case measure => exact meas_lt R0.out
              · obtain ⟨wi, rfl⟩ : ∃ wi : World, wi = wr := ⟨_, rfl⟩
                have BI := hbel2
                have hsi := hsr2
                have HGI := HGD
                have HLI := hL
                obtain ⟨A2, rfl⟩ : ∃ A2, A2 = A1 := ⟨_, rfl⟩
                go_upto_region 16 with fail
                rename (kd == 5) = false => hz5
                rename (kd == 6) = false => hz6
                clear hk5 hk6 hz5 hz6 hjl
                go_wp2
                go_loopw [8] (fun i wr => ∃ k : Nat, k ≤ lim.length ∧ i = .int .i64 k ∧ Below wi.heap.size wi wr) (fun i _ => lim.length - (intOf i).toNat)
                case atStart => exact ⟨0, Nat.zero_le _, rfl, Below.refl _ _⟩
                case round =>
                  obtain ⟨k, hk, rfl, hbel⟩ := hrel
                  have hsr := hbel.size
                  by_cases hkl : k < lim.length
                  · have hk20 : k < 20 := by have := HB.out; omega
                    have hcv := fun W => conv_nm k hk20 W
                    have hLr := HLI.out.below hbel
                    have Br : Below w.heap.size w wr := BI.trans (hbel.mono hsi)
                    have R1 : Hid (k + 1 ≤ lim.length) := hkl
                    have M1 : Hid (lim.length - (k + 1) < lim.length - k) := by unfold Hid; omega
                    have hk32 : (k : Int) ≤ 20 := by omega
                    have hinv := HLI.out.2.1
                    obtain ⟨hgo, hgn⟩ := HGI.out k hkl
                    obtain ⟨-, rfl | ⟨g, off, rfl, hg, hh⟩⟩ := H0.out.below Br
                    · simp at hkl
                    · have hv := hh k hkl
                      generalize lim[k] = v at hv hgo hgn
                      obtain ⟨x0, x1, x2, x3⟩ := v
                      obtain ⟨v0, v1, v2, v3⟩ := hv
                      clear hh hk20 hk
                      go_wp2_with fail
                      refine (used_b w.heap.size w1.heap.size n A2 (nmI k) wr hLr (nmI_size k)).mono ?_
                      rintro e w5 ⟨rfl, hb5⟩
                      have hs5 := hb5.size
                      have B5 : Below wi.heap.size wi w5 := hbel.trans (hb5.mono hsr)
                      have hg5 : g < w5.heap.size := Nat.lt_of_lt_of_le hg hs5
                      have c0 : w5.cell? ⟨g, off + k * 4, none⟩ = some (.int .i64 x0) := by rw [hb5.cell hg]; exact v0
                      have c1 : w5.cell? ⟨g, off + k * 4 + 1, none⟩ = some (.int .i64 x1) := by rw [hb5.cell hg]; exact v1
                      have c2 : w5.cell? ⟨g, off + k * 4 + 2, none⟩ = some (.int .i64 x2) := by rw [hb5.cell hg]; exact v2
                      have c3 : w5.cell? ⟨g, off + k * 4 + 3, none⟩ = some (.int .i64 x3) := by rw [hb5.cell hg]; exact v3
                      have hs15 := B5.size
                      clear v0 v1 v2 v3 hb5 hLr
                      cases hok : okV (x0, x1, x2, x3) with
                      | true =>
                        obtain ⟨u, hA, hfit⟩ := hgo hkl hok
                        have hoku := (hinv _ _ hA).2
                        rw [show usedOf A2 (nmI k).data.toList = u by simp [usedOf, hA], hA]
                        simp only [Option.isSome_some, if_true]
                        obtain ⟨u0, u1, u2, u3⟩ := u
                        unfold vv
                        dsimp only
                        clear hinv hgo hgn
                        go_upto_region 20 with fail
                        refine wp_name ?_
                        intro w6 hw6
                        have X6 : w6.heap[w5.heap.size]? = some (.cells #[.int .i64 u0, .int .i64 u1, .int .i64 u2, .int .i64 u3] 29 (0, 0)) := by rw [hw6]; exact (by (repeat (first | (with_reducible assumption) | (with_reducible exact alloc_at _ _) | ((with_reducible apply alloc_at'); (simp; done)) | (with_reducible apply alloc_at_lt) | (with_reducible apply heap_drew_at) | (with_reducible apply heap_drewN_at) | (with_reducible apply heap_setCell_same) | ((with_reducible apply heap_set_ne); (first | omega | (dsimp only; omega) | (simp; done) | (simp; omega))) | (with_reducible apply setRow_at) | ((with_reducible apply setRow_ne); (first | omega | (dsimp only; omega) | (simp; done) | (simp; omega))))))
                        have B6 : Below w5.heap.size w5 w6 := by rw [hw6]; exact (by repeat (first | with_reducible assumption | with_reducible exact Below.refl _ _ | with_reducible refine Below.drew ?_ | with_reducible refine below_drewN ?_ _ | with_reducible refine below_alloc ?_ _ | with_reducible refine Below.alloc ?_ (by first | omega | (simp; done) | (simp; omega)) _ | with_reducible refine Below.setCell ?_ (by first | omega | (simp; done) | (simp; omega)) _ | with_reducible refine below_setRow ?_ (by first | omega | (simp; done) | (simp; omega)) _))
                        have S6 := lt_of_at X6
                        have hg6 : g < w6.heap.size := Nat.lt_of_lt_of_le hg5 B6.size
                        clear hw6
                        have f0 : ∀ lx_ : Lat w6.heap.size w6, lx_.w.cell? ⟨g, off + k * 4, none⟩ = some (.int .i64 x0) := fun lx_ => by rw [lx_.cell _ _ hg6, B6.cell hg5]; exact c0
                        have d0 : ∀ lx_ : Lat w6.heap.size w6, lx_.w.cell? ⟨w5.heap.size, 0, none⟩ = some (.int .i64 u0) := fun lx_ => by rw [lx_.cell _ _ S6]; exact (blk_cell X6 0).trans rfl
                        have f1 : ∀ lx_ : Lat w6.heap.size w6, lx_.w.cell? ⟨g, off + k * 4 + 1, none⟩ = some (.int .i64 x1) := fun lx_ => by rw [lx_.cell _ _ hg6, B6.cell hg5]; exact c1
                        have d1 : ∀ lx_ : Lat w6.heap.size w6, lx_.w.cell? ⟨w5.heap.size, 1, none⟩ = some (.int .i64 u1) := fun lx_ => by rw [lx_.cell _ _ S6]; exact (blk_cell X6 1).trans rfl
                        have f2 : ∀ lx_ : Lat w6.heap.size w6, lx_.w.cell? ⟨g, off + k * 4 + 2, none⟩ = some (.int .i64 x2) := fun lx_ => by rw [lx_.cell _ _ hg6, B6.cell hg5]; exact c2
                        have d2 : ∀ lx_ : Lat w6.heap.size w6, lx_.w.cell? ⟨w5.heap.size, 2, none⟩ = some (.int .i64 u2) := fun lx_ => by rw [lx_.cell _ _ S6]; exact (blk_cell X6 2).trans rfl
                        have f3 : ∀ lx_ : Lat w6.heap.size w6, lx_.w.cell? ⟨g, off + k * 4 + 3, none⟩ = some (.int .i64 x3) := fun lx_ => by rw [lx_.cell _ _ hg6, B6.cell hg5]; exact c3
                        have d3 : ∀ lx_ : Lat w6.heap.size w6, lx_.w.cell? ⟨w5.heap.size, 3, none⟩ = some (.int .i64 u3) := fun lx_ => by rw [lx_.cell _ _ S6]; exact (blk_cell X6 3).trans rfl
                        have hF1 : ∀ W, Calls Try.prog 22 #[Value.agg #[Value.int IntKind.i64 x0, Value.int IntKind.i64 x1, Value.int IntKind.i64 x2, Value.int IntKind.i64 x3]] W fun e w' => e = .returned (.bool true) ∧ Below W.heap.size W w' := fun W => by have h := rformed_any x0 x1 x2 x3 W; rw [show formedB x0 x1 x2 x3 = true from hok] at h; exact h
                        have hF2 : ∀ W, Calls Try.prog 22 #[Value.agg #[Value.int IntKind.i64 u0, Value.int IntKind.i64 u1, Value.int IntKind.i64 u2, Value.int IntKind.i64 u3]] W fun e w' => e = .returned (.bool true) ∧ Below W.heap.size W w' := fun W => by have h := rformed_any u0 u1 u2 u3 W; rw [show formedB u0 u1 u2 u3 = true from hoku] at h; exact h
                        have hF3 : ∀ W, Calls Try.prog 23 #[Value.agg #[Value.int IntKind.i64 u0, Value.int IntKind.i64 u1, Value.int IntKind.i64 u2, Value.int IntKind.i64 u3], Value.agg #[Value.int IntKind.i64 x0, Value.int IntKind.i64 x1, Value.int IntKind.i64 x2, Value.int IntKind.i64 x3]] W fun e w' => e = .returned (.bool true) ∧ Below W.heap.size W w' := fun W => by have h := rfits_any u0 u1 u2 u3 x0 x1 x2 x3 W; rw [show fitsB u0 u1 u2 u3 x0 x1 x2 x3 = true from hfit] at h; exact h
                        refine wp_region_lat (by kernel_rfl) (by kernel_rfl) ?_
                        repeat (go_big_quiet_step (first | (go_at_call_of 22 (Value.agg #[Value.int IntKind.i64 x0, Value.int IntKind.i64 x1, Value.int IntKind.i64 x2, Value.int IntKind.i64 x3]); exact lat_of (Nat.le_refl _) (hF1 _)) | (go_at_call_of 22 (Value.agg #[Value.int IntKind.i64 u0, Value.int IntKind.i64 u1, Value.int IntKind.i64 u2, Value.int IntKind.i64 u3]); exact lat_of (Nat.le_refl _) (hF2 _)) | (go_at_call 23; exact lat_of (Nat.le_refl _) (hF3 _))))
                        refine wpQuiet_nil ?_
                        rintro w7 ⟨x7, hx7⟩
                        have hb7 := x7.h
                        rw [← hx7] at hb7
                        clear hx7 x7 f0 f1 f2 f3 d0 d1 d2 d3 c0 c1 c2 c3
                        have B7 : Below wi.heap.size wi w7 := (B5.trans (B6.mono hs15)).trans (hb7.mono (Nat.le_trans hs15 B6.size))
                        clear hb7 X6 B6
                        go_wp2
                        go_roundw
                        case rel => exact ⟨k + 1, R1.out, by go_num, B7⟩
                        case measure =>
                          have := M1.out
                          simp [intOf]
                          omega
                      | false =>
                        have hA := hgn (fun h => by rw [hok] at h; cases h.2)
                        obtain ⟨u, hu⟩ : ∃ u, u = usedOf A2 (nmI k).data.toList := ⟨_, rfl⟩
                        rw [← hu, hA]
                        simp only [Option.isSome_none, Bool.false_eq_true, if_false]
                        clear hu
                        obtain ⟨u0, u1, u2, u3⟩ := u
                        unfold vv
                        dsimp only
                        clear hinv hgo hgn
                        go_upto_region 20 with fail
                        refine wp_name ?_
                        intro w6 hw6
                        have X6 : w6.heap[w5.heap.size]? = some (.cells #[.int .i64 u0, .int .i64 u1, .int .i64 u2, .int .i64 u3] 29 (0, 0)) := by rw [hw6]; exact (by (repeat (first | (with_reducible assumption) | (with_reducible exact alloc_at _ _) | ((with_reducible apply alloc_at'); (simp; done)) | (with_reducible apply alloc_at_lt) | (with_reducible apply heap_drew_at) | (with_reducible apply heap_drewN_at) | (with_reducible apply heap_setCell_same) | ((with_reducible apply heap_set_ne); (first | omega | (dsimp only; omega) | (simp; done) | (simp; omega))) | (with_reducible apply setRow_at) | ((with_reducible apply setRow_ne); (first | omega | (dsimp only; omega) | (simp; done) | (simp; omega))))))
                        have B6 : Below w5.heap.size w5 w6 := by rw [hw6]; exact (by repeat (first | with_reducible assumption | with_reducible exact Below.refl _ _ | with_reducible refine Below.drew ?_ | with_reducible refine below_drewN ?_ _ | with_reducible refine below_alloc ?_ _ | with_reducible refine Below.alloc ?_ (by first | omega | (simp; done) | (simp; omega)) _ | with_reducible refine Below.setCell ?_ (by first | omega | (simp; done) | (simp; omega)) _ | with_reducible refine below_setRow ?_ (by first | omega | (simp; done) | (simp; omega)) _))
                        have S6 := lt_of_at X6
                        have hg6 : g < w6.heap.size := Nat.lt_of_lt_of_le hg5 B6.size
                        clear hw6
                        have f0 : ∀ lx_ : Lat w6.heap.size w6, lx_.w.cell? ⟨g, off + k * 4, none⟩ = some (.int .i64 x0) := fun lx_ => by rw [lx_.cell _ _ hg6, B6.cell hg5]; exact c0
                        have d0 : ∀ lx_ : Lat w6.heap.size w6, lx_.w.cell? ⟨w5.heap.size, 0, none⟩ = some (.int .i64 u0) := fun lx_ => by rw [lx_.cell _ _ S6]; exact (blk_cell X6 0).trans rfl
                        have f1 : ∀ lx_ : Lat w6.heap.size w6, lx_.w.cell? ⟨g, off + k * 4 + 1, none⟩ = some (.int .i64 x1) := fun lx_ => by rw [lx_.cell _ _ hg6, B6.cell hg5]; exact c1
                        have d1 : ∀ lx_ : Lat w6.heap.size w6, lx_.w.cell? ⟨w5.heap.size, 1, none⟩ = some (.int .i64 u1) := fun lx_ => by rw [lx_.cell _ _ S6]; exact (blk_cell X6 1).trans rfl
                        have f2 : ∀ lx_ : Lat w6.heap.size w6, lx_.w.cell? ⟨g, off + k * 4 + 2, none⟩ = some (.int .i64 x2) := fun lx_ => by rw [lx_.cell _ _ hg6, B6.cell hg5]; exact c2
                        have d2 : ∀ lx_ : Lat w6.heap.size w6, lx_.w.cell? ⟨w5.heap.size, 2, none⟩ = some (.int .i64 u2) := fun lx_ => by rw [lx_.cell _ _ S6]; exact (blk_cell X6 2).trans rfl
                        have f3 : ∀ lx_ : Lat w6.heap.size w6, lx_.w.cell? ⟨g, off + k * 4 + 3, none⟩ = some (.int .i64 x3) := fun lx_ => by rw [lx_.cell _ _ hg6, B6.cell hg5]; exact c3
                        have d3 : ∀ lx_ : Lat w6.heap.size w6, lx_.w.cell? ⟨w5.heap.size, 3, none⟩ = some (.int .i64 u3) := fun lx_ => by rw [lx_.cell _ _ S6]; exact (blk_cell X6 3).trans rfl
                        have hF1 : ∀ W, Calls Try.prog 22 #[Value.agg #[Value.int IntKind.i64 x0, Value.int IntKind.i64 x1, Value.int IntKind.i64 x2, Value.int IntKind.i64 x3]] W fun e w' => e = .returned (.bool false) ∧ Below W.heap.size W w' := fun W => by have h := rformed_any x0 x1 x2 x3 W; rw [show formedB x0 x1 x2 x3 = false from hok] at h; exact h
                        refine wp_region_lat (by kernel_rfl) (by kernel_rfl) ?_
                        repeat (go_big_quiet_step (first | (go_at_call_of 22 (Value.agg #[Value.int IntKind.i64 x0, Value.int IntKind.i64 x1, Value.int IntKind.i64 x2, Value.int IntKind.i64 x3]); exact lat_of (Nat.le_refl _) (hF1 _))))
                        refine wpQuiet_nil ?_
                        rintro w7 ⟨x7, hx7⟩
                        have hb7 := x7.h
                        rw [← hx7] at hb7
                        clear hx7 x7 f0 f1 f2 f3 d0 d1 d2 d3 c0 c1 c2 c3
                        have B7 : Below wi.heap.size wi w7 := (B5.trans (B6.mono hs15)).trans (hb7.mono (Nat.le_trans hs15 B6.size))
                        clear hb7 X6 B6
                        go_wp2
                        go_roundw
                        case rel => exact ⟨k + 1, R1.out, by go_num, B7⟩
                        case measure =>
                          have := M1.out
                          simp [intOf]
                          omega
                  · obtain rfl : k = lim.length := by omega
                    clear hkl hk
                    have hj63 := HJ.out R0.out
                    go_wp2
                    go_roundw
                    case rel => exact ⟨j + 1, A2, R0.out, by go_num, HLI.out.below hbel, HGI, BI.trans (hbel.mono hsi)⟩
                    case measure => exact meas_lt R0.out
        · obtain rfl : j = ops.length := by omega
          clear hjl hj
          go_wp2
          go_ret
          exact ⟨rfl, hbel2⟩
end Go.Proofs.Ytobgolceggeogaa
