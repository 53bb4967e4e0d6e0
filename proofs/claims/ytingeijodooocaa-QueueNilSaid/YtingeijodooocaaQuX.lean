/- Chapter 14's queue: Push of a job that doesn't wait. -/
import Derived.Test.YtingeijodooocaaQuW
import Derived.StillTail
import Derived.Deep.DeepCutAuto
import Derived.WalkSpells
namespace Go.Proofs.Ytingeijodooocaa
open Go.RowKit
variable {B q nA nH c : Nat} {w w' : World} {m : Option (Nat × Nat)} {A : WMap} {Hm : HMap} {D : List UInt8 → Hd} {L : List Wt}
set_option maxRecDepth 20000 in
set_option maxHeartbeats 8000000 in
theorem qpush_ok (h : QuV B w q m nA A nH Hm D L c) {v : Wt} (hv : A v.job = none) (hj : 1 ≤ v.job ∧ v.job ≤ 100 ∧ 0 ≤ v.pri ∧ v.pri ≤ 100 ∧ v.ten.size ≤ maxLen) (hc : c + 1 ≤ 1000) (hB : B ≤ w.heap.size) (hn : nA < 1000) :
    Calls Try.prog 10 #[.pointer (some ⟨q, 0, none⟩), wtV v] w fun e w' => e = .returned (.int .i64 0) ∧ QB2 B w w' q m Hm D (insQ v L) (c + 1) := by
  have HH := hid h
  have HV := hid hv
  have HJ := hid hj
  have HC := hid hc
  have HB := hid hB
  have HN := hid hn
  have hlook := h.r.look v.job (wf_small (by omega) (by omega))
  rw [hv] at hlook
  have c0 := h.r.head.1
  have hlq := h.r.ltq
  have qT : ∀ (w : World) (r : Option Nat), (binOp .eql 51 (.map r) (.map none)).run Try.prog w = .ok (.bool r.isNone) w := fun w r => run_eql_map_nil w _ _ _ r Try.underlying51
  have hmk : ∀ w', (Instr.makeMap 51 none).run Try.prog w' = .ok (.map (some w'.heap.size)) (w'.alloc (.map #[] 0)) := fun w' => run_makeMap _ w'
  have hmk2 : ∀ w', (Instr.makeMap 52 none).run Try.prog w' = .ok (.map (some w'.heap.size)) (w'.alloc (.map #[] 0)) := fun w' => run_makeMap _ w'
  obtain ⟨j, t, p⟩ := v
  simp only [wtV, Option.getD_none, Option.isSome_none, mkW, wt0] at hlook ⊢
  obtain ⟨r1, r2, r3, r4, r5⟩ := hj
  simp only at r1 r2 r3 r4
  have r1' : ¬ j < 1 := by omega
  have r2' : ¬ 100 < j := by omega
  have r3' : ¬ p < 0 := by omega
  have r4' : ¬ 100 < p := by omega
  have iw : IntKind.i64.wrap (-p) = -p := IntWalk.i64_in _ (by omega)
  have HSZ := hid r5
  clear r1 r2 r3 r4 r5 h hv hc hB hn
  have HL := hid hlook
  clear hlook
  go_enter Try.func10, Try.ntmps10
  go_upto_region 5 with fail
  refine wp_name ?_
  intro w1 hw1
  have A1 : w1.heap[w.heap.size]? = some (.cells #[.int .i64 j, .string t, .int .i64 p] 29 (0, 0)) := by rw [hw1]; exact (by (repeat (first | (with_reducible assumption) | (with_reducible exact alloc_at _ _) | ((with_reducible apply alloc_at'); (simp; done)) | (with_reducible apply alloc_at_lt) | (with_reducible apply heap_drew_at) | (with_reducible apply heap_drewN_at) | (with_reducible apply heap_setCell_same) | ((with_reducible apply heap_set_ne); (first | omega | (dsimp only; omega) | (simp; done) | (simp; omega))) | (with_reducible apply setRow_at) | ((with_reducible apply setRow_ne); (first | omega | (dsimp only; omega) | (simp; done) | (simp; omega))))))
  have B1 : Below w.heap.size w w1 := by rw [hw1]; exact (by repeat (first | with_reducible assumption | with_reducible exact Below.refl _ _ | with_reducible refine Below.drew ?_ | with_reducible refine below_drewN ?_ _ | with_reducible refine below_alloc ?_ _ | with_reducible refine Below.alloc ?_ (by first | omega | (simp; done) | (simp; omega)) _ | with_reducible refine Below.setCell ?_ (by first | omega | (simp; done) | (simp; omega)) _ | with_reducible refine below_setRow ?_ (by first | omega | (simp; done) | (simp; omega)) _))
  clear hw1
  have c1 : w1.cell? ⟨q, 0, none⟩ = some (.map (m.map (·.1))) := (B1.cell (p := ⟨q, 0, none⟩) hlq).trans c0
  have x0 : w1.cell? ⟨w.heap.size, 0, none⟩ = some (.int .i64 j) := (blk_cell A1 0).trans rfl
  have hl1 := lt_of_at A1
  have hq1 : q < w1.heap.size := by have := B1.size; omega
  have HL1 : Hid (∀ W, Below w1.heap.size w1 W → (Instr.lookup 51 (.map (m.map (·.1))) (.int .i64 j) true).run Try.prog W = .ok (.tuple #[.agg #[.int .i64 0, .string ByteArray.empty, .int .i64 0, .int .i64 ((0 : Nat) : Int)], .bool false]) W) := fun W hb => HL.out W (B1.trans (hb.mono B1.size))
  clear c0 HL
  go_cut [5, 6] (fun s5 s6 wx => s6 = .bool false ∧ Below w1.heap.size w1 wx)
  case first =>
    generalize m.map (·.1) = mm at *
    go_region_held3 (fun w' => w'.cell? ⟨q, 0, none⟩ = some (.map mm) ∧ w'.cell? ⟨w.heap.size, 0, none⟩ = some (.int .i64 j) ∧ (Instr.lookup 51 (.map mm) (.int .i64 j) true).run Try.prog w' = .ok (.tuple #[.agg #[.int .i64 0, .string ByteArray.empty, .int .i64 0, .int .i64 ((0 : Nat) : Int)], .bool false]) w') ((refine ⟨?_, ?_, ?_⟩) <;> (first | (refine HL1.out _ ?_; (repeat (first | with_reducible assumption | with_reducible exact Below.refl _ _ | with_reducible refine Below.drew ?_ | with_reducible refine below_drewN ?_ _ | with_reducible refine below_alloc ?_ _ | with_reducible refine Below.alloc ?_ (by first | omega | (simp; done) | (simp; omega)) _ | with_reducible refine Below.setCell ?_ (by first | omega | (simp; done) | (simp; omega)) _ | with_reducible refine below_setRow ?_ (by first | omega | (simp; done) | (simp; omega)) _)); done) | (go_keep; done) | (with_reducible assumption))) (fail)
    all_goals
      go_wp2_with fail
      go_meet
      exact ⟨rfl, (by repeat (first | with_reducible assumption | with_reducible exact Below.refl _ _ | with_reducible refine Below.drew ?_ | with_reducible refine below_drewN ?_ _ | with_reducible refine below_alloc ?_ _ | with_reducible refine Below.alloc ?_ (by first | omega | (simp; done) | (simp; omega)) _ | with_reducible refine Below.setCell ?_ (by first | omega | (simp; done) | (simp; omega)) _ | with_reducible refine below_setRow ?_ (by first | omega | (simp; done) | (simp; omega)) _))⟩
  case rest =>
    obtain ⟨rfl, hb5⟩ := hcut
    obtain ⟨w5, rfl⟩ : ∃ wx_ : World, wx_ = wc := ⟨_, rfl⟩
    have A5 := (hb5.block _ hl1).trans A1
    have hb5 := B1.trans (hb5.mono B1.size)
    have hX5 : Hid (w5.heap[w.heap.size]? = some (blkX ⟨j, t, p⟩)) := A5
    have HB5 := hid hb5
    have hq5 : q < w5.heap.size := by have := hb5.size; omega
    obtain ⟨mo, hmo⟩ : ∃ x, x = m := ⟨_, rfl⟩
    have c5 : w5.cell? ⟨q, 0, none⟩ = some (.map (mo.map (·.1))) := by rw [hmo]; exact (hb5.cell (p := ⟨q, 0, none⟩) hlq).trans HH.out.r.head.1
    have c5b : w5.cell? ⟨q, 1, none⟩ = some (.map (mo.map (·.2))) := by rw [hmo]; exact (hb5.cell (p := ⟨q, 1, none⟩) hlq).trans HH.out.r.head.2
    have f5 : ∀ o, w5.frozen? ⟨q, o, none⟩ = false := fun o => (hb5.frozen (p := ⟨q, o, none⟩) hlq).trans (blk_free HH.out.r.blk o)
    have HMO := hid hmo
    clear c1 x0 HL1 hb5 A5 B1 A1 hl1 hq1 hmo
    go_upto_region 8 with fail
    cases mo
    case' none =>
      rw [Option.map_none] at c5 c5b
      go_upto_region 10 with fail
      refine wp_name ?_
      intro w10 hw10
      obtain ⟨bm, hbm⟩ : ∃ x, x = w5.heap.size := ⟨_, rfl⟩
      obtain ⟨bh, hbh⟩ : ∃ x, x = w5.heap.size + 1 := ⟨_, rfl⟩
      have HPA : Hid (Pa B w w10 q m nA A nH Hm D ⟨j, t, p⟩ bm bh) := by
        have e : m = none := HMO.out.symm
        have h2 := HH.out
        rw [e] at h2 ⊢
        unfold Hid
        rw [hw10, hbm, hbh]
        exact Pa.made h2 HB5.out hX5.out
      clear hw10 hbm hbh c5 c5b f5 hq5
    case' some mb =>
      obtain ⟨bm, bh⟩ := mb
      rw [Option.map_some] at c5 c5b
      go_upto_region 10 with fail
      refine wp_name ?_
      intro w10 hw10
      have HPA : Hid (Pa B w w10 q m nA A nH Hm D ⟨j, t, p⟩ bm bh) := by
        have e : m = some (bm, bh) := HMO.out.symm
        have h2 := HH.out
        rw [e] at h2 ⊢
        unfold Hid
        rw [hw10]
        exact Pa.old h2 HB5.out hX5.out
      clear hw10 c5 c5b f5 hq5
    all_goals
      have k1 : w10.cell? ⟨q, 1, none⟩ = some (.map (some bh)) := HPA.out.r.head.2
      have x1 : w10.cell? ⟨w.heap.size, 1, none⟩ = some (.string t) := (blk_cell HPA.out.blk 1).trans rfl
      have kl : q < w10.heap.size := HPA.out.r.ltq
      have xl : w.heap.size < w10.heap.size := lt_of_at HPA.out.blk
      have HLK : Hid (∀ W, Below w10.heap.size w10 W → (Instr.lookup 52 (.map (some bh)) (.string t) false).run Try.prog W = .ok (mkH ((Hm t.data.toList).getD none)) W) := HPA.out.r.lookH HSZ.out
      cases hK : Hm t.data.toList
      case' none =>
        have HKN : Hid (Hm (⟨j, t, p⟩ : Wt).ky = none) := hK
        have HLK1 : Hid (∀ W, Below w10.heap.size w10 W → (Instr.lookup 52 (.map (some bh)) (.string t) false).run Try.prog W = .ok (.pointer none) W) := fun W hb => by have := HLK.out W hb; rw [hK] at this; exact this
        clear hK HLK
        go_region_held3 (fun w' => w'.cell? ⟨q, 1, none⟩ = some (.map (some bh)) ∧ w'.cell? ⟨w.heap.size, 1, none⟩ = some (.string t) ∧ (Instr.lookup 52 (.map (some bh)) (.string t) false).run Try.prog w' = .ok (.pointer none) w') ((refine ⟨?_, ?_, ?_⟩) <;> (first | (refine HLK1.out _ ?_; (repeat (first | with_reducible assumption | with_reducible exact Below.refl _ _ | with_reducible refine Below.drew ?_ | with_reducible refine below_drewN ?_ _ | with_reducible refine below_alloc ?_ _ | with_reducible refine Below.alloc ?_ (by first | omega | (simp; done) | (simp; omega)) _ | with_reducible refine Below.setCell ?_ (by first | omega | (simp; done) | (simp; omega)) _ | with_reducible refine below_setRow ?_ (by first | omega | (simp; done) | (simp; omega)) _)); done) | (go_keep; done) | (with_reducible assumption))) (fail)
        go_upto_region 12 with fail
        refine wp_name ?_
        intro w12 hw12
        have B12 : Below w10.heap.size w10 w12 := by rw [hw12]; exact (by repeat (first | with_reducible assumption | with_reducible exact Below.refl _ _ | with_reducible refine Below.drew ?_ | with_reducible refine below_drewN ?_ _ | with_reducible refine below_alloc ?_ _ | with_reducible refine Below.alloc ?_ (by first | omega | (simp; done) | (simp; omega)) _ | with_reducible refine Below.setCell ?_ (by first | omega | (simp; done) | (simp; omega)) _ | with_reducible refine below_setRow ?_ (by first | omega | (simp; done) | (simp; omega)) _))
        have HP12 := hid (HPA.out.below B12)
        obtain ⟨H, hH⟩ : ∃ x, x = w12.heap.size := ⟨_, rfl⟩
        have hnew := mnew_g B w12 (Nat.le_trans HB.out (by have := B12.size; omega))
        rw [← hH] at hnew
        have HHL : Hid (w.heap.size < H) := by unfold Hid; have := B12.size; omega
        have HHE := hid hH
        clear hw12 B12 hH HLK1 k1 x1 kl xl
        go_wp2_with fail
        refine hnew.mono ?_
        rintro e w13 ⟨rfl, hM13, hb13⟩
        rw [HHE.out] at hb13
        have p13 := HP12.out.below hb13
        go_upto_region 13 with fail
        have e0 : ∀ lx_ : Lat w13.heap.size w13, lx_.w.cell? ⟨q, 1, none⟩ = some (.map (some bh)) := fun lx_ => by rw [lx_.cell _ _ p13.r.ltq]; exact p13.r.head.2
        have f1 : ∀ lx_ : Lat w13.heap.size w13, lx_.w.cell? ⟨w.heap.size, 1, none⟩ = some (.string t) := fun lx_ => by rw [lx_.cell _ _ (lt_of_at p13.blk)]; exact (blk_cell p13.blk 1).trans rfl
        have HP13 := hid p13
        have HM13 := hid hM13
        clear p13 hM13 hb13 hnew
        refine wp_region_lat_tail 7 (by kernel_rfl) (by kernel_rfl) ?_
        simp only [List.take_succ_cons, List.take_zero, List.drop_succ_cons, List.drop_zero]
        repeat (go_big_quiet_step (fail))
        refine wpQuiet_nil ?_
        rintro w14 ⟨x14, hx14⟩
        have hb14 := x14.h
        rw [← hx14] at hb14
        clear hx14 x14 e0 f1
        have p14 := HP13.out.below hb14
        obtain ⟨w15, hrun, ho, hg, -⟩ := OwnsM.store (p14.r.on bm bh rfl).2.1 mkH_inj Try.underlying9 Try.underlying52 (by have := HH.out.cnt; unfold maxLen; omega) HSZ.out (some H)
        have ho2 : OwnsM w15 Try.prog 9 mkH bh (nH + 1) (putA Hm (⟨j, t, p⟩ : Wt).ky (some H)) := by
          have e : Hm t.data.toList = none := HKN.out
          rw [e] at ho
          exact ho
        have HPC : Hid (∃ d nH', d.H = H ∧ Pc B w w15 q m nA A Hm D c ⟨j, t, p⟩ bm bh nH' d) := ⟨_, nH + 1, rfl, Pc.fresh HH.out p14 HKN.out (HM13.out.below hb14) HHL.out ho2 hg⟩
        simp only [mkH] at hrun
        clear ho ho2 hg p14 hb14 HKN HHL HHE
        go_upto_region 14 with fail
        clear hrun
      case' some b =>
        have hbe := (HH.out.hp _ b hK).1
        obtain ⟨H, hH⟩ : ∃ x, x = (D t.data.toList).H := ⟨_, rfl⟩
        rw [← hH] at hbe
        subst hbe
        have HHE := hid hH
        have HKS : Hid (Hm (⟨j, t, p⟩ : Wt).ky = some (some H)) := hK
        have HLK1 : Hid (∀ W, Below w10.heap.size w10 W → (Instr.lookup 52 (.map (some bh)) (.string t) false).run Try.prog W = .ok (.pointer (some ⟨H, 0, none⟩)) W) := fun W hb => by have := HLK.out W hb; rw [hK] at this; exact this
        clear hK HLK hH
        go_region_held3 (fun w' => w'.cell? ⟨q, 1, none⟩ = some (.map (some bh)) ∧ w'.cell? ⟨w.heap.size, 1, none⟩ = some (.string t) ∧ (Instr.lookup 52 (.map (some bh)) (.string t) false).run Try.prog w' = .ok (.pointer (some ⟨H, 0, none⟩)) w') ((refine ⟨?_, ?_, ?_⟩) <;> (first | (refine HLK1.out _ ?_; (repeat (first | with_reducible assumption | with_reducible exact Below.refl _ _ | with_reducible refine Below.drew ?_ | with_reducible refine below_drewN ?_ _ | with_reducible refine below_alloc ?_ _ | with_reducible refine Below.alloc ?_ (by first | omega | (simp; done) | (simp; omega)) _ | with_reducible refine Below.setCell ?_ (by first | omega | (simp; done) | (simp; omega)) _ | with_reducible refine below_setRow ?_ (by first | omega | (simp; done) | (simp; omega)) _)); done) | (go_keep; done) | (with_reducible assumption))) (fail)
        go_upto_region 14 with fail
        refine wp_name ?_
        intro w15 hw15
        have B15 : Below w10.heap.size w10 w15 := by rw [hw15]; exact (by repeat (first | with_reducible assumption | with_reducible exact Below.refl _ _ | with_reducible refine Below.drew ?_ | with_reducible refine below_drewN ?_ _ | with_reducible refine below_alloc ?_ _ | with_reducible refine Below.alloc ?_ (by first | omega | (simp; done) | (simp; omega)) _ | with_reducible refine Below.setCell ?_ (by first | omega | (simp; done) | (simp; omega)) _ | with_reducible refine below_setRow ?_ (by first | omega | (simp; done) | (simp; omega)) _))
        have HPC : Hid (∃ d nH', d.H = H ∧ Pc B w w15 q m nA A Hm D c ⟨j, t, p⟩ bm bh nH' d) := ⟨D (⟨j, t, p⟩ : Wt).ky, nH, HHE.out.symm, Pc.same HH.out (HPA.out.below B15) HKS.out⟩
        clear hw15 B15 HLK1 k1 x1 kl xl HHE HKS
      all_goals
        obtain ⟨d, nH', rfl, p15⟩ := HPC.out
        have HP15 := hid p15
        have hcall := minsert_g (x := (-p, j, 0)) p15.hd p15.hl p15.hi (by have := p15.hm; have := HC.out; omega)
        have y0 : w15.cell? ⟨w.heap.size, 0, none⟩ = some (.int .i64 j) := (blk_cell p15.blk 0).trans rfl
        have y2 : w15.cell? ⟨w.heap.size, 2, none⟩ = some (.int .i64 p) := (blk_cell p15.blk 2).trans rfl
        have yl : w.heap.size < w15.heap.size := lt_of_at p15.blk
        clear p15 HPC
        go_wp2_with fail
        refine hcall.mono ?_
        rintro e w17 ⟨rfl, va', vk', vs', T, hMv, hl, hi, hk, hf, ht⟩
        have htd : Tur d.foot w15 w17 := ht
        obtain ⟨r17, X17⟩ := HP15.out.ins HH.out htd
        have HI := hid (And.intro hMv (And.intro hl (And.intro hi (And.intro hk (And.intro hf htd)))))
        have HR17 := hid r17
        have e0 : ∀ lx_ : Lat w17.heap.size w17, lx_.w.cell? ⟨q, 0, none⟩ = some (.map (some bm)) := fun lx_ => by rw [lx_.cell _ _ r17.ltq]; exact r17.head.1
        have g0 : ∀ lx_ : Lat w17.heap.size w17, lx_.w.cell? ⟨w.heap.size, 0, none⟩ = some (.int .i64 j) := fun lx_ => by rw [lx_.cell _ _ (lt_of_at X17)]; exact (blk_cell X17 0).trans rfl
        have g1 : ∀ lx_ : Lat w17.heap.size w17, lx_.w.cell? ⟨w.heap.size, 1, none⟩ = some (.string t) := fun lx_ => by rw [lx_.cell _ _ (lt_of_at X17)]; exact (blk_cell X17 1).trans rfl
        have g2 : ∀ lx_ : Lat w17.heap.size w17, lx_.w.cell? ⟨w.heap.size, 2, none⟩ = some (.int .i64 p) := fun lx_ => by rw [lx_.cell _ _ (lt_of_at X17)]; exact (blk_cell X17 2).trans rfl
        clear hMv hl hi hk hf ht htd y0 y2 yl r17 X17 hcall
        go_upto_region 25 with fail
        refine wp_region_lat_tail 9 (by kernel_rfl) (by kernel_rfl) ?_
        simp only [List.take_succ_cons, List.take_zero, List.drop_succ_cons, List.drop_zero]
        repeat (go_big_quiet_step (fail))
        refine wpQuiet_nil ?_
        rintro w18 ⟨x18, hx18⟩
        have hb18 := x18.h
        rw [← hx18] at hb18
        clear hx18 x18 e0 g0 g1 g2
        have r18 := HR17.out.below hb18
        obtain ⟨w19, hrun, ho, hg, -⟩ := OwnsI.store (s := j) (r18.on bm bh rfl).1 mkW_inj Try.underlying2 Try.underlying51 (by have := HN.out; unfold maxLen; omega) (wf_small (by have : 1 ≤ j := HJ.out.1; omega) (by have : j ≤ 100 := HJ.out.2.1; omega)) ((⟨j, t, p⟩ : Wt), d.S.m)
        have ho2 : OwnsI w19 Try.prog 2 mkW bm (nA + 1) (putI A j ((⟨j, t, p⟩ : Wt), d.S.m)) := by
          have e : A j = none := HV.out
          rw [e] at ho
          exact ho
        have FIN := hid (Pc.fin HH.out HP15.out HV.out HJ.out HC.out HI.out.1 HI.out.2.1 HI.out.2.2.1 HI.out.2.2.2.1 HI.out.2.2.2.2.1 HI.out.2.2.2.2.2 hb18 ho2 hg)
        simp only [mkW] at hrun
        clear ho ho2 hg r18 hb18
        go_wp2
        go_ret
        exact ⟨rfl, FIN.out⟩
end Go.Proofs.Ytingeijodooocaa
