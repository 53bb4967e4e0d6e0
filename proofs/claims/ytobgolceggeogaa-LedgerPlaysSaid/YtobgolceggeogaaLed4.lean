/- Contract of chapter 13's Take: all entries are taken, or none. -/
import Derived.Test.YtobgolceggeogaaLed3
namespace Go.Proofs.Ytobgolceggeogaa
open Go.RowKit
set_option maxHeartbeats 4000000 in
theorem take_any (L n : Nat) (m : Option Nat) (A : Acc) (S : Option Addr) (len cap : Nat) (l : List Ent) (w : World) (hL : Led w L m n A) (hi : Inv A) (hn : n < maxLen) (hm : l.length ≤ maxLen) (hl : SlE w S len l) :
    Calls Try.prog 12 #[.pointer (some ⟨L, 0, none⟩), .slice S len cap] w fun e w' => e = .returned (.int .i64 (takeE A l)) ∧ Led w' L m n (takeR A l) ∧ w.grownBy w' m := by
  have hlt := led_lt hL
  have hg := gath_all L n m A S len cap l w hL hm hl
  have HL := hid hL
  have HI := hid hi
  have HN := hid hn
  clear hL hi hn hm hl
  go_enter Try.func12, Try.ntmps12
  go_wp2_with fail
  refine hg.mono ?_
  rintro e w1 ⟨hb1, hbad, hgood⟩
  have B1 : Below w.heap.size w w1 := hb1
  have hs1 := B1.size
  clear hg
  by_cases hq : gathE A l = 0
  · obtain ⟨sb, n', rfl, hsb, hown⟩ := hgood hq
    clear hbad hgood
    obtain ⟨w2, hrun, hr2, hg2, hs2⟩ := OwnsM.range hown Try.underlying9 Try.underlying66
    have B2 : Below w.heap.size w w2 := B1.trans (below_grown hg2 (by omega) (fun j e => by cases e))
    have HQ := hid hq
    have HR2 := hid hr2
    clear hq hr2 hown
    go_wp2
    clear hrun
    go_loopw [] (fun wr => ∃ (left : List UInt8 → Bool) (cnt : Nat), Hid (RangesM wr Try.prog 9 vv sb w1.heap.size n' (sumsOf l) left cnt) ∧ Below w.heap.size w wr ∧ w1.heap.size < wr.heap.size ∧ Hid (∀ k, (sumsOf l k).isSome = true → left k = false → takeFits A (sumsOf l) k = true)) (fun wr => wr.rangeLeft sb w1.heap.size)
    case atStart => exact ⟨_, _, HR2, B2, by omega, fun k hk h => by rw [hk] at h; cases h⟩
    case round =>
      obtain ⟨left, cnt, hrg, hbel, hszr, hfit⟩ := hrel
      have LEDr := HL.out.below hbel
      have own := RangesM.owns hrg.out
      rcases RangesM.next hrg.out Try.underlying9 0 with ⟨h0, hl0, hrun⟩ | ⟨s, x, w3, cnt', hs, hleft, hS, hrun, hrg3, hlt3, hg3, hs3, hen⟩
      · obtain ⟨w4, hrun4, hr4, hg4, hs4⟩ := OwnsM.range own Try.underlying9 Try.underlying66
        have B4 : Below w.heap.size w w4 := hbel.trans (below_grown hg4 hbel.size (fun j e => by cases e))
        have HR4 := hid hr4
        have hE := hid (takeE_all HQ.out (fun k hk => hfit.out k hk (hl0 k)))
        obtain ⟨wo, rfl⟩ : ∃ wo : World, wo = wr := ⟨_, rfl⟩
        have hsw := hbel.size
        have hsbo : sb < wo.heap.size := OwnsM.lt own
        clear LEDr own hr4 hrg hfit
        go_wp2
        clear hrun hrun4
        go_loopw [] (fun wr => ∃ (left : List UInt8 → Bool) (cnt : Nat), Hid (RangesM wr Try.prog 9 vv sb wo.heap.size n' (sumsOf l) left cnt) ∧ Hid (Led wr L m n (partA tookOf A (sumsOf l) left)) ∧ Hid (w.grownBy wr m) ∧ wo.heap.size < wr.heap.size) (fun wr => wr.rangeLeft sb wo.heap.size)
        case atStart => exact ⟨_, _, HR4, by rw [partA_start]; exact HL.out.below B4, grown_below B4 _, by omega⟩
        case round =>
          obtain ⟨left, cnt, hrg, hled, hgr, hszr2⟩ := hrel
          rcases RangesM.next hrg.out Try.underlying9 0 with ⟨h0, hl0, hrun⟩ | ⟨s, x, w5, cnt', hs, hleft, hS, hrun, hrg5, hlt5, hg5, hs5, hen⟩
          · go_wp2
            go_ret
            refine ⟨(by rw [hE.out.1]; rfl), ?_, hgr.out⟩
            rw [hE.out.2, ← partA_take A (sumsOf l) hl0]
            exact hled.out
          · have LED5 : Led w5 L m n (partA tookOf A (sumsOf l) left) := hled.out.at (hg5.block L (led_lt hled.out) (by intro e; injection e; omega)) (fun b e => hg5.block b (by subst e; exact hled.out.map_lt) (by
              have h1 : b < w.heap.size := by subst e; exact HL.out.map_lt
              intro e2; injection e2; omega))
            have G5 : w.grownBy w5 m := hgr.out.andThen hg5 (fun j e => by cases e; left; omega)
            obtain ⟨lc, lf⟩ := led_cell LED5
            have hlt5' := led_lt LED5
            obtain ⟨a, hA⟩ := gath_acct HQ.out hS
            have hAp : partA tookOf A (sumsOf l) left s.data.toList = some a := (partA_left hleft).trans hA
            have hst : putA (partA tookOf A (sumsOf l) left) s.data.toList (tookOf a x) = partA tookOf A (sumsOf l) (fun j => left j && !decide (j = s.data.toList)) := partA_step hS hA
            obtain ⟨mb, rfl⟩ : ∃ mb, m = some mb := by
              cases m with
              | none => rw [LED5.2.2] at hAp; cases hAp
              | some mb => exact ⟨mb, rfl⟩
            have hmb : mb < w.heap.size := HL.out.map_lt
            obtain ⟨hok1, hok2⟩ := HI.out _ _ hA
            have hlook : ∀ o, (Instr.lookup 59 (.map (some mb)) (.string s) false).run Try.prog (w5.alloc o) = .ok (acctV ((partA tookOf A (sumsOf l) left s.data.toList).getD zeroA)) (w5.alloc o) := fun o => LED5.look hs (fun b e => Below.heap_alloc _ _ _ (by cases e; exact LED5.map_lt))
            rw [hAp] at hlook
            have hsok := sumsOf_ok (gath_form HQ.out) _ _ hS
            obtain ⟨⟨y0, y1, y2, y3⟩, z0, z1, z2, z3⟩ := a
            obtain ⟨x0, x1, x2, x3⟩ := x
            obtain ⟨⟨m0, n0⟩, ⟨m1, n1⟩, ⟨m2, n2⟩, ⟨m3, n3⟩⟩ := (okV_iff _).1 hok2
            unfold ok2 at hsok
            obtain ⟨⟨p0, q0⟩, ⟨p1, q1⟩, ⟨p2, q2⟩, ⟨p3, q3⟩⟩ := hsok
            simp only at m0 n0 m1 n1 m2 n2 m3 n3 p0 q0 p1 q1 p2 q2 p3 q3
            simp only [Option.getD_some, acctV] at hlook
            simp only [vv] at hrun hen
            have HRG5 := hid hrg5
            have HS := hid hs
            have HST := hid hst
            have HAP := hid hAp
            have HLE := hid LED5
            have HG5 := hid G5
            have k5 : wo.heap.size < w5.heap.size := by omega
            have hs5' : wr.heap.size ≤ w5.heap.size := by omega
            have k6 : L ≠ w5.heap.size := by omega
            have hrl := hid hrg.out.left_eq
            clear hs5 hrg5 hS hok1 hok2 hA LED5 hs hg5 hst hAp hled G5 hgr hrg
            go_wp2
            refine wp_loop_rounds 5 ?_
            iterate 4 (rw [rounds_succ]; go_wp2; go_region; go_wp2)
            rw [rounds_succ]
            go_upto_region 23 with fail
            refine wp_name ?_
            intro w6 hw6
            have A6 : w6.heap[w5.heap.size + 1]? = some (.cells #[.int .i64 y0, .int .i64 y1, .int .i64 y2, .int .i64 y3, .int .i64 (z0 + x0), .int .i64 (z1 + x1), .int .i64 (z2 + x2), .int .i64 (z3 + x3)] 64 (0, 0)) := by rw [hw6]; exact at_of (by apply Exists.intro; refine ⟨?_, ?_⟩; (focus ((repeat (first | (with_reducible assumption) | (with_reducible exact alloc_at _ _) | ((with_reducible apply alloc_at'); (simp; done)) | (with_reducible apply alloc_at_lt) | (with_reducible apply heap_drew_at) | (with_reducible apply heap_drewN_at) | (with_reducible apply heap_setCell_same) | ((with_reducible apply heap_set_ne); (first | omega | (dsimp only; omega) | (simp; done) | (simp; omega))) | (with_reducible apply setRow_at) | ((with_reducible apply setRow_ne); (first | omega | (dsimp only; omega) | (simp; done) | (simp; omega))))))); simp)
            have B6 : Below w5.heap.size w5 w6 := by rw [hw6]; exact (by repeat (first | with_reducible assumption | with_reducible exact Below.refl _ _ | with_reducible refine Below.drew ?_ | with_reducible refine below_drewN ?_ _ | with_reducible refine below_alloc ?_ _ | with_reducible refine Below.alloc ?_ (by first | omega | (simp; done) | (simp; omega)) _ | with_reducible refine Below.setCell ?_ (by first | omega | (simp; done) | (simp; omega)) _ | with_reducible refine below_setRow ?_ (by first | omega | (simp; done) | (simp; omega)) _))
            have S6 := lt_of_at A6
            clear hw6 lc lf
            have LED6 := HLE.out.below B6
            obtain ⟨l6c, l6f⟩ := led_cell LED6
            have L6 := led_lt LED6
            have e0 : ∀ lx_ : Lat w6.heap.size w6, lx_.w.cell? ⟨L, 0, none⟩ = some (.map (some mb)) := fun lx_ => by rw [lx_.cell _ _ L6]; exact l6c
            have f0 : ∀ lx_ : Lat w6.heap.size w6, lx_.w.cell? ⟨w5.heap.size + 1, 0, none⟩ = some (.int .i64 y0) := fun lx_ => by rw [lx_.cell _ _ S6]; exact (blk_cell A6 0).trans rfl
            have f1 : ∀ lx_ : Lat w6.heap.size w6, lx_.w.cell? ⟨w5.heap.size + 1, 1, none⟩ = some (.int .i64 y1) := fun lx_ => by rw [lx_.cell _ _ S6]; exact (blk_cell A6 1).trans rfl
            have f2 : ∀ lx_ : Lat w6.heap.size w6, lx_.w.cell? ⟨w5.heap.size + 1, 2, none⟩ = some (.int .i64 y2) := fun lx_ => by rw [lx_.cell _ _ S6]; exact (blk_cell A6 2).trans rfl
            have f3 : ∀ lx_ : Lat w6.heap.size w6, lx_.w.cell? ⟨w5.heap.size + 1, 3, none⟩ = some (.int .i64 y3) := fun lx_ => by rw [lx_.cell _ _ S6]; exact (blk_cell A6 3).trans rfl
            have f4 : ∀ lx_ : Lat w6.heap.size w6, lx_.w.cell? ⟨w5.heap.size + 1, 4, none⟩ = some (.int .i64 (z0 + x0)) := fun lx_ => by rw [lx_.cell _ _ S6]; exact (blk_cell A6 4).trans rfl
            have f5 : ∀ lx_ : Lat w6.heap.size w6, lx_.w.cell? ⟨w5.heap.size + 1, 5, none⟩ = some (.int .i64 (z1 + x1)) := fun lx_ => by rw [lx_.cell _ _ S6]; exact (blk_cell A6 5).trans rfl
            have f6 : ∀ lx_ : Lat w6.heap.size w6, lx_.w.cell? ⟨w5.heap.size + 1, 6, none⟩ = some (.int .i64 (z2 + x2)) := fun lx_ => by rw [lx_.cell _ _ S6]; exact (blk_cell A6 6).trans rfl
            have f7 : ∀ lx_ : Lat w6.heap.size w6, lx_.w.cell? ⟨w5.heap.size + 1, 7, none⟩ = some (.int .i64 (z3 + x3)) := fun lx_ => by rw [lx_.cell _ _ S6]; exact (blk_cell A6 7).trans rfl
            refine wp_region_lat_tail 6 (by kernel_rfl) (by kernel_rfl) ?_
            simp only [List.take_succ_cons, List.take_zero, List.drop_succ_cons, List.drop_zero]
            repeat (go_big_quiet_step (fail))
            refine wpQuiet_nil ?_
            rintro w7 ⟨x7, hx7⟩
            have hb7 := x7.h
            rw [← hx7] at hb7
            clear hx7 x7 e0 f0 f1 f2 f3 f4 f5 f6 f7
            have LED7 := LED6.below hb7
            have s6 := B6.size
            have s7 := hb7.size
            obtain ⟨w8, hrun8, ho8, hg8, hs8⟩ := OwnsM.store LED7.2 acctV_inj Try.underlying9 Try.underlying59 HN.out HS.out (tookOf ((y0, y1, y2, y3), z0, z1, z2, z3) (x0, x1, x2, x3))
            rw [HAP.out, HST.out] at ho8
            simp only [Option.isSome_some, if_true] at ho8
            simp only [acctV, tookOf, addV] at hrun8
            have key : RangesM w8 Try.prog 9 vv sb wo.heap.size n' (sumsOf l) (fun j => left j && !decide (j = s.data.toList)) cnt' := RangesM.at HRG5.out
              ((hg8.block sb (by omega) (by intro e; injection e; omega)).trans ((hb7.block sb (by omega)).trans (B6.block sb (by omega))))
              ((hg8.block _ (by omega) (by intro e; injection e; omega)).trans ((hb7.block _ (by omega)).trans (B6.block _ k5)))
            have L8 : Led w8 L (some mb) n (partA tookOf A (sumsOf l) (fun j => left j && !decide (j = s.data.toList))) := ⟨(hg8.block L (led_lt LED7) (by intro e; injection e with e; exact OwnsM.ne LED7.2 LED7.1 e)).trans LED7.1, ho8⟩
            have G8 : w.grownBy w8 (some mb) := ((HG5.out.andThen (grown_below B6 none) (fun j e => by cases e)).andThen (grown_below hb7 none) (fun j e => by cases e)).andThen hg8 (fun j e => Or.inr e)
            have KEY := hid key
            have HL8 := hid L8
            have HG8 := hid G8
            clear ho8 hg8 key L8 G8 LED6 LED7
            go_wp2
            go_roundw
            case rel => exact ⟨_, cnt', KEY, HL8, HG8, by omega⟩
            case measure => rw [KEY.out.left_eq, hrl.out]; exact hlt5
      · have B3 : Below w.heap.size w w3 := hbel.trans (below_grown hg3 hbel.size (fun j e => by cases e; omega))
        have LED3 := HL.out.below B3
        obtain ⟨lc, lf⟩ := led_cell LED3
        have hlt3' := led_lt LED3
        obtain ⟨a, hA⟩ := gath_acct HQ.out hS
        obtain ⟨hok1, hok2⟩ := HI.out _ _ hA
        have hlook : ∀ o, (Instr.lookup 59 (.map m) (.string s) false).run Try.prog (w3.alloc o) = .ok (acctV ((A s.data.toList).getD zeroA)) (w3.alloc o) := fun o => LED3.look hs (fun b e => Below.heap_alloc _ _ _ (by subst e; exact LED3.map_lt))
        rw [hA] at hlook
        have hsok := sumsOf_ok (gath_form HQ.out) _ _ hS
        have hfitk : takeFits A (sumsOf l) s.data.toList = fitsV (addV a.2 x) a.1 := by unfold takeFits usedOf limOf; rw [hA, hS]; rfl
        obtain ⟨⟨y0, y1, y2, y3⟩, z0, z1, z2, z3⟩ := a
        obtain ⟨x0, x1, x2, x3⟩ := x
        obtain ⟨⟨m0, n0⟩, ⟨m1, n1⟩, ⟨m2, n2⟩, ⟨m3, n3⟩⟩ := (okV_iff _).1 hok2
        unfold ok2 at hsok
        obtain ⟨⟨p0, q0⟩, ⟨p1, q1⟩, ⟨p2, q2⟩, ⟨p3, q3⟩⟩ := hsok
        simp only at m0 n0 m1 n1 m2 n2 m3 n3 p0 q0 p1 q1 p2 q2 p3 q3
        simp only [Option.getD_some, acctV] at hlook
        simp only [vv] at hrun hen
        simp only [addV, fitsV, fitsB] at hfitk
        have HFK := hid hfitk
        have HRG3 := hid hrg3
        have HS := hid hS
        have HL3 := hid LED3
        have k3 : w1.heap.size < w3.heap.size := by omega
        have hs3' : wr.heap.size ≤ w3.heap.size := by omega
        have hrl := hid hrg.out.left_eq
        have key : ∀ W, Below w3.heap.size w3 W → RangesM W Try.prog 9 vv sb w1.heap.size n' (sumsOf l) (fun j => left j && !decide (j = s.data.toList)) cnt' := fun W h => RangesM.at hrg3 (h.block _ (OwnsM.lt (RangesM.owns hrg3))) (h.block _ k3)
        have KEY := hid key
        clear hs3 hfitk hrg3 hS hok1 hok2 hA LED3 LEDr own hs hg3 hrg key
        go_wp2
        refine wp_loop_rounds 5 ?_
        repeat any_goals (rw [rounds_succ]; go_wp2; (try (go_quiet (fail); go_wp2)))
        iterate 4
          · have hE := takeE_not HQ.out HS.out (by rw [HFK.out]; exact decide_eq_false (by omega))
            go_ret
            exact ⟨(by rw [hE.1]; rfl), by rw [hE.2]; exact HL3.out.below (by repeat (first | with_reducible assumption | with_reducible exact Below.refl _ _ | with_reducible refine Below.drew ?_ | with_reducible refine below_drewN ?_ _ | with_reducible refine below_alloc ?_ _ | with_reducible refine Below.alloc ?_ (by first | omega | (simp; done) | (simp; omega)) _ | with_reducible refine Below.setCell ?_ (by first | omega | (simp; done) | (simp; omega)) _ | with_reducible refine below_setRow ?_ (by first | omega | (simp; done) | (simp; omega)) _)), grown_below (B3.trans (Below.mono (by repeat (first | with_reducible assumption | with_reducible exact Below.refl _ _ | with_reducible refine Below.drew ?_ | with_reducible refine below_drewN ?_ _ | with_reducible refine below_alloc ?_ _ | with_reducible refine Below.alloc ?_ (by first | omega | (simp; done) | (simp; omega)) _ | with_reducible refine Below.setCell ?_ (by first | omega | (simp; done) | (simp; omega)) _ | with_reducible refine below_setRow ?_ (by first | omega | (simp; done) | (simp; omega)) _)) B3.size)) _⟩
        · go_roundw
          case rel =>
            refine ⟨_, cnt', KEY.out _ (by repeat (first | with_reducible assumption | with_reducible exact Below.refl _ _ | with_reducible refine Below.drew ?_ | with_reducible refine below_drewN ?_ _ | with_reducible refine below_alloc ?_ _ | with_reducible refine Below.alloc ?_ (by first | omega | (simp; done) | (simp; omega)) _ | with_reducible refine Below.setCell ?_ (by first | omega | (simp; done) | (simp; omega)) _ | with_reducible refine below_setRow ?_ (by first | omega | (simp; done) | (simp; omega)) _)), (by repeat (first | with_reducible assumption | with_reducible exact Below.refl _ _ | with_reducible refine Below.drew ?_ | with_reducible refine below_drewN ?_ _ | with_reducible refine below_alloc ?_ _ | with_reducible refine Below.alloc ?_ (by first | omega | (simp; done) | (simp; omega)) _ | with_reducible refine Below.setCell ?_ (by first | omega | (simp; done) | (simp; omega)) _ | with_reducible refine below_setRow ?_ (by first | omega | (simp; done) | (simp; omega)) _)), by simp; omega, fun k hk hf => ?_⟩
            by_cases e : k = s.data.toList
            · subst e
              rw [HFK.out]
              exact decide_eq_true (by omega)
            · exact hfit.out k hk (by simpa [e] using hf)
          case measure => rw [(KEY.out _ (by repeat (first | with_reducible assumption | with_reducible exact Below.refl _ _ | with_reducible refine Below.drew ?_ | with_reducible refine below_drewN ?_ _ | with_reducible refine below_alloc ?_ _ | with_reducible refine Below.alloc ?_ (by first | omega | (simp; done) | (simp; omega)) _ | with_reducible refine Below.setCell ?_ (by first | omega | (simp; done) | (simp; omega)) _ | with_reducible refine below_setRow ?_ (by first | omega | (simp; done) | (simp; omega)) _))).left_eq, hrl.out]; exact hlt3
  · obtain rfl := hbad hq
    clear hbad hgood
    obtain ⟨h1, h2⟩ := takeE_form rfl hq
    obtain ⟨q, hqe⟩ : ∃ q, q = gathE A l := ⟨_, rfl⟩
    rw [← hqe] at hq h1 ⊢
    have HQE := hid hqe
    clear hqe
    go_wp2
    go_ret
    exact ⟨(by rw [h1]; rfl), by rw [h2]; exact HL.out.below B1, grown_below B1 _⟩
end Go.Proofs.Ytobgolceggeogaa
