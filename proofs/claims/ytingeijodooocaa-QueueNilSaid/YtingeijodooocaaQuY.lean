/- Chapter 14's queue: Remove. -/
import Derived.Test.YtingeijodooocaaQuX
namespace Go.Proofs.Ytingeijodooocaa
open Go.RowKit
variable {B q nA nH c : Nat} {w w' : World} {m : Option (Nat × Nat)} {A : WMap} {Hm Hm' : HMap} {D : List UInt8 → Hd} {L : List Wt}
variable {v : Wt} {bm bh nH' : Nat} {d : Hd} {wx w2 w3 w4 w6 w9 : World}
theorem QuR.putH (h : QuR B w q (some (bm, bh)) nA A nH Hm) (ho : OwnsM w' Try.prog 9 mkH bh nH' Hm') (hg : w.grownBy w' (some bh)) : QuR B w' q (some (bm, bh)) nA A nH' Hm' := by
  obtain ⟨o1, o2, b1, b2, b3⟩ := h.on bm bh rfl
  have hap := h.apart rfl
  refine ⟨h.hB, (hg.block _ h.ltq (fun e => hap.2.1 (by injection e with e; exact e.symm))).trans h.blk, fun e => (by cases e), fun x y e => ?_⟩
  cases e
  exact ⟨o1.at (hg.block _ o1.lt (fun e => b3 (by injection e))), ho, b1, b2, b3⟩
theorem QuR.putI {nA' : Nat} {A' : WMap} (h : QuR B w q (some (bm, bh)) nA A nH Hm) (ho : OwnsI w' Try.prog 2 mkW bm nA' A') (hg : w.grownBy w' (some bm)) : QuR B w' q (some (bm, bh)) nA' A' nH Hm := by
  obtain ⟨o1, o2, b1, b2, b3⟩ := h.on bm bh rfl
  have hap := h.apart rfl
  refine ⟨h.hB, (hg.block _ h.ltq (fun e => hap.1 (by injection e with e; exact e.symm))).trans h.blk, fun e => (by cases e), fun x y e => ?_⟩
  cases e
  exact ⟨ho, o2.at (hg.block _ o2.lt (fun e => b3 (by injection e with e; exact e.symm))), b1, b2, b3⟩
/-- The looked-up waiter, without 'ok'. -/
theorem QuR.look1 (h : QuR B w q m nA A nH Hm) (j : Int) (hj : (Lit.int .i64 j).wf = true) :
    ∀ W, Below w.heap.size w W → (Instr.lookup 51 (.map (m.map (·.1))) (.int .i64 j) false).run Try.prog W = .ok (mkW ((A j).getD wt0)) W := by
  intro W hb
  have h2 := h.below hb
  rcases m with _ | ⟨bm, bh⟩
  · obtain ⟨-, rfl, -⟩ := h.off rfl
    exact Maps.look_nil false (Maps.int_keyed Try.underlying2) Try.underlying51 (zeroWt W) (Maps.keyOf_int_mk Try.underlying2 hj)
  · exact (h2.on bm bh rfl).1.look mkW_inj Try.underlying2 Try.underlying51 (zeroWt W) hj
theorem QuV.removed (h : QuV B w q (some (bm, bh)) nA A nH Hm D L c) {x : Nat} (hv : A v.job = some (v, x)) {va' : Value} {T : Mm}
    (hM : MmV B w6 (D v.ky).H va' (D v.ky).vk (D v.ky).vs T) (hl : Lnk T) (hi : Ivl (LtM T.k) T.n T.e) (hTm : T.m = (D v.ky).S.m) (hTk : T.k = (D v.ky).S.k) (hs : ∀ y, T.s y = 0 ↔ ((D v.ky).S.s y = 0 ∨ y = x)) (hva : va'.ownBlock = (D v.ky).va.ownBlock)
    (t1 : Tur (D v.ky).foot w w6) (hcase : (T.n = 0 ∧ Hm' = delA Hm v.ky) ∨ (0 < T.n ∧ Hm' = Hm)) (hnH : nH' ≤ nH) (r9 : QuR B w9 q (some (bm, bh)) (nA - 1) (delI A v.job) nH' Hm') (t2 : Tur (fun k => k = bm ∨ k = bh) w6 w9) :
    QB2 B w w9 q (some (bm, bh)) Hm D (delQ v.job L) c := by
  obtain ⟨⟨b, hb⟩, -⟩ := h.held _ v x hv
  have hfd : ∀ k, (⟨(D v.ky).H, va', (D v.ky).vk, (D v.ky).vs, T⟩ : Hd).foot k → (D v.ky).foot k := fun k hk => by
    rcases hk with e | e | e | e
    · exact .inl e
    · exact .inr (.inl (hva.symm.trans e))
    · exact .inr (.inr (.inl e))
    · exact .inr (.inr (.inr e))
  have hne : ∀ t b, Hm t = some b → ∀ k, (D t).foot k → ¬ (k = bm ∨ k = bh) := fun t b e k hk => by
    have := (h.aq t b e k hk).2 bm bh rfl
    rintro (q1 | q1)
    · exact this.1 q1
    · exact this.2 q1
  have hqv := h.rem (w' := w9) (d := ⟨(D v.ky).H, va', (D v.ky).vk, (D v.ky).vs, T⟩) (Hm' := Hm') hv (Nat.le_trans hnH h.cnt.1) hcase rfl r9
    (hM.kept fun k hk => t2.kept k (hM.foot hk).2 (hne _ b hb k (hfd k hk))) hl hi hTm hTk hs hfd
    (fun t b2 e hne2 k hk => by
      have hlt := ((h.hp t b2 e).2.1.foot hk).2
      rw [t2.kept k (Nat.lt_of_lt_of_le hlt t1.size) (hne t b2 e k hk), t1.kept k hlt (fun e2 => h.ap t v.ky b2 b e hb hne2 k hk e2)])
  refine ⟨_, _, _, _, _, _, hqv, ?_, fun k hk2 => ?_⟩
  · refine (t1.mono fun k e => .inl (.inr ⟨_, b, hb, e⟩)).trans t2 fun k e => .inl (.inl (.inr ⟨bm, bh, rfl, e⟩))
  · left
    rcases hk2 with e | ⟨t, b2, e, hk2⟩
    · exact .inl e
    · have e2 : Hm t = some b2 := by
        rcases hcase with ⟨-, q1⟩ | ⟨-, q1⟩
        · rw [q1] at e
          by_cases r : t = v.ky
          · rw [r, delA_same] at e; cases e
          · rw [delA_other _ r] at e; exact e
        · rw [q1] at e; exact e
      by_cases q1 : t = v.ky
      · rw [q1, updD_same] at hk2
        exact .inr ⟨_, b, hb, hfd k hk2⟩
      · rw [updD_ne _ _ q1] at hk2
        exact .inr ⟨t, b2, e2, hk2⟩
set_option maxHeartbeats 2000000 in
theorem qrem_no (h : QuR B w q m nA A nH Hm) (j : Int) (hj : (Lit.int .i64 j).wf = true) (hn : A j = none) :
    Calls Try.prog 17 #[.pointer (some ⟨q, 0, none⟩), .int .i64 j] w fun e w' => e = .returned (.int .i64 3) ∧ Below w.heap.size w w' := by
  have hg := qget_g h j hj
  rw [hn] at hg
  simp only [Option.getD_none, Option.isSome_none, Bool.false_eq_true, if_false, wt0] at hg
  clear h
  go_enter Try.func17, Try.ntmps17
  go_wp2_with fail
  refine hg.mono ?_
  rintro e w1 ⟨rfl, hb1⟩
  have hs1 := hb1.size
  go_wp2
  go_ret
  exact ⟨rfl, (by repeat (first | with_reducible assumption | with_reducible exact Below.refl _ _ | with_reducible refine Below.drew ?_ | with_reducible refine below_drewN ?_ _ | with_reducible refine below_alloc ?_ _ | with_reducible refine Below.alloc ?_ (by first | omega | (simp; done) | (simp; omega)) _ | with_reducible refine Below.setCell ?_ (by first | omega | (simp; done) | (simp; omega)) _ | with_reducible refine below_setRow ?_ (by first | omega | (simp; done) | (simp; omega)) _))⟩
theorem fieldW (a b c d : Value) (w : World) : (Instr.field 62 (.agg #[a, b, c, d]) 1).run Try.prog w = .ok d w := by
  kernel_rfl
set_option maxRecDepth 20000 in
set_option maxHeartbeats 8000000 in
theorem qrem_ok (h : QuV B w q m nA A nH Hm D L c) {v : Wt} {x : Nat} (hv : A v.job = some (v, x)) :
    Calls Try.prog 17 #[.pointer (some ⟨q, 0, none⟩), .int .i64 v.job] w fun e w' => e = .returned (.int .i64 0) ∧ QB2 B w w' q m Hm D (delQ v.job L) c := by
  obtain ⟨bm, bh, rfl⟩ : ∃ bm bh, m = some (bm, bh) := by
    rcases m with _ | ⟨bm, bh⟩
    · obtain ⟨-, rfl, -⟩ := h.r.off rfl
      cases hv
    · exact ⟨bm, bh, rfl⟩
  have hjb := h.job _ _ _ hv
  have hwf : (Lit.int .i64 v.job).wf = true := wf_small (by omega) (by omega)
  obtain ⟨⟨b, hb⟩, hx, hsx, -⟩ := h.held _ _ _ hv
  obtain ⟨hbe, hM, hl, hi, -⟩ := h.hp _ b hb
  have HGet : Hid (∀ W, Below w.heap.size w W → Calls Try.prog 16 #[.pointer (some ⟨q, 0, none⟩), .int .i64 v.job] W fun e w' => e = .returned (.tuple #[.agg #[.int .i64 v.job, .string v.ten, .int .i64 v.pri], .int .i64 0]) ∧ Below W.heap.size W w') := fun W hb => by
    have := qget_g (h.r.below hb) v.job hwf
    rw [hv] at this
    exact this
  have HRem : Hid (∀ W, Below w.heap.size w W → Calls Try.prog 33 #[.pointer (some ⟨(D v.ky).H, 0, none⟩), .int .i64 x] W fun e w' => e = .returned (.int .i64 0) ∧ ∃ va' T, MmV B w' (D v.ky).H va' (D v.ky).vk (D v.ky).vs T ∧ Lnk T ∧ Ivl (LtM T.k) T.n T.e ∧ T.n + 1 = (D v.ky).S.n ∧ T.m = (D v.ky).S.m ∧ T.k = (D v.ky).S.k ∧ (∀ y, T.s y = 0 ↔ ((D v.ky).S.s y = 0 ∨ y = x)) ∧ va'.ownBlock = (D v.ky).va.ownBlock ∧ Tur (FootM (D v.ky).H (D v.ky).va (D v.ky).vk (D v.ky).vs) W w') := fun W hb => mremove_g (hM.below hb) hl hi hx hsx
  have HLK : Hid (∀ W, Below w.heap.size w W → (Instr.lookup 52 (.map (some bh)) (.string v.ten) false).run Try.prog W = .ok (.pointer (some ⟨(D v.ky).H, 0, none⟩)) W) := fun W hW => by
    have := h.r.lookH hjb.2.2.2.2.2 W hW
    have e : Hm v.ten.data.toList = some (some (D v.ky).H) := by rw [← hbe]; exact hb
    rw [e] at this
    exact this
  have HLW : Hid (∀ W, Below w.heap.size w W → (Instr.lookup 51 (.map (some bm)) (.int .i64 v.job) false).run Try.prog W = .ok (.agg #[.int .i64 v.job, .string v.ten, .int .i64 v.pri, .int .i64 (x : Nat)]) W) := fun W hW => by
    have := h.r.look1 v.job hwf W hW
    rw [hv] at this
    exact this
  have HH := hid h
  have HV := hid hv
  have HB := hid hb
  have HSZ := hid hjb.2.2.2.2.2
  have hlq := h.r.ltq
  have hfq : ∀ k, (D v.ky).foot k → k < w.heap.size ∧ k ≠ q ∧ k ≠ bm ∧ k ≠ bh := fun k hk => ⟨(hM.foot hk).2, (h.aq _ b hb k hk).1, (h.aq _ b hb k hk).2 bm bh rfl⟩
  have HFQ := hid hfq
  have HWF := hid hwf
  obtain ⟨H, hH⟩ : ∃ y, y = (D v.ky).H := ⟨_, rfl⟩
  have HHE := hid hH
  rw [← hH] at HRem HLK
  clear h hv hb hbe hM hl hi hx hsx hjb hfq hH hwf
  have hfld := fieldW
  go_enter Try.func17, Try.ntmps17
  go_wp2_with fail
  refine (HGet.out _ (by repeat (first | with_reducible assumption | with_reducible exact Below.refl _ _ | with_reducible refine Below.drew ?_ | with_reducible refine below_drewN ?_ _ | with_reducible refine below_alloc ?_ _ | with_reducible refine Below.alloc ?_ (by first | omega | (simp; done) | (simp; omega)) _ | with_reducible refine Below.setCell ?_ (by first | omega | (simp; done) | (simp; omega)) _ | with_reducible refine below_setRow ?_ (by first | omega | (simp; done) | (simp; omega)) _))).mono ?_
  rintro e w1 ⟨rfl, hb1⟩
  have hs1 := hb1.size
  go_upto_region 4 with fail
  refine wp_name ?_
  intro w2 hw2
  have A2 : w2.heap[w1.heap.size]? = some (.cells #[.int .i64 v.job, .string v.ten, .int .i64 v.pri] 29 (0, 0)) := by rw [hw2]; exact (by (repeat (first | (with_reducible assumption) | (with_reducible exact alloc_at _ _) | ((with_reducible apply alloc_at'); (simp; done)) | (with_reducible apply alloc_at_lt) | (with_reducible apply heap_drew_at) | (with_reducible apply heap_drewN_at) | (with_reducible apply heap_setCell_same) | ((with_reducible apply heap_set_ne); (first | omega | (dsimp only; omega) | (simp; done) | (simp; omega))) | (with_reducible apply setRow_at) | ((with_reducible apply setRow_ne); (first | omega | (dsimp only; omega) | (simp; done) | (simp; omega))))))
  have B2 : Below w.heap.size w w2 := by rw [hw2]; exact (by repeat (first | with_reducible assumption | with_reducible exact Below.refl _ _ | with_reducible refine Below.drew ?_ | with_reducible refine below_drewN ?_ _ | with_reducible refine below_alloc ?_ _ | with_reducible refine Below.alloc ?_ (by first | omega | (simp; done) | (simp; omega)) _ | with_reducible refine Below.setCell ?_ (by first | omega | (simp; done) | (simp; omega)) _ | with_reducible refine below_setRow ?_ (by first | omega | (simp; done) | (simp; omega)) _))
  obtain ⟨X, hX⟩ : ∃ X, X = w1.heap.size := ⟨_, rfl⟩
  rw [← hX] at A2 ⊢
  have hXw : w.heap.size ≤ X := by omega
  clear hw2 hb1 hs1 hX HGet
  have hl2 := lt_of_at A2
  have r2 := HH.out.r.below B2
  have k1 : w2.cell? ⟨q, 1, none⟩ = some (.map (some bh)) := r2.head.2
  have x1 : w2.cell? ⟨X, 1, none⟩ = some (.string v.ten) := (blk_cell A2 1).trans rfl
  have kl : q < w2.heap.size := r2.ltq
  have HLK1 : Hid (∀ W, Below w2.heap.size w2 W → (Instr.lookup 52 (.map (some bh)) (.string v.ten) false).run Try.prog W = .ok (.pointer (some ⟨H, 0, none⟩)) W) := fun W hb => HLK.out W (B2.trans (hb.mono B2.size))
  clear r2 HLK
  go_region_held3 (fun w' => w'.cell? ⟨q, 1, none⟩ = some (.map (some bh)) ∧ w'.cell? ⟨X, 1, none⟩ = some (.string v.ten) ∧ (Instr.lookup 52 (.map (some bh)) (.string v.ten) false).run Try.prog w' = .ok (.pointer (some ⟨H, 0, none⟩)) w') ((refine ⟨?_, ?_, ?_⟩) <;> (first | (refine HLK1.out _ ?_; (repeat (first | with_reducible assumption | with_reducible exact Below.refl _ _ | with_reducible refine Below.drew ?_ | with_reducible refine below_drewN ?_ _ | with_reducible refine below_alloc ?_ _ | with_reducible refine Below.alloc ?_ (by first | omega | (simp; done) | (simp; omega)) _ | with_reducible refine Below.setCell ?_ (by first | omega | (simp; done) | (simp; omega)) _ | with_reducible refine below_setRow ?_ (by first | omega | (simp; done) | (simp; omega)) _)); done) | (go_keep; done) | (with_reducible assumption))) (fail)
  go_upto_region 5 with fail
  refine wp_name ?_
  intro w4 hw4
  have B24 : Below w2.heap.size w2 w4 := by rw [hw4]; exact (by repeat (first | with_reducible assumption | with_reducible exact Below.refl _ _ | with_reducible refine Below.drew ?_ | with_reducible refine below_drewN ?_ _ | with_reducible refine below_alloc ?_ _ | with_reducible refine Below.alloc ?_ (by first | omega | (simp; done) | (simp; omega)) _ | with_reducible refine Below.setCell ?_ (by first | omega | (simp; done) | (simp; omega)) _ | with_reducible refine below_setRow ?_ (by first | omega | (simp; done) | (simp; omega)) _))
  have B4 : Below w.heap.size w w4 := B2.trans (B24.mono B2.size)
  have A4 := (B24.block _ hl2).trans A2
  have hlw : (Instr.lookup 51 (.map (some bm)) (.int .i64 v.job) false).run Try.prog w4 = .ok (.agg #[.int .i64 v.job, .string v.ten, .int .i64 v.pri, .int .i64 (x : Nat)]) w4 := HLW.out w4 B4
  have k0 : w4.cell? ⟨q, 0, none⟩ = some (.map (some bm)) := (HH.out.r.below B4).head.1
  have kl4 : q < w4.heap.size := (HH.out.r.below B4).ltq
  clear hw4 B24 HLK1 k1 x1 kl A2 hl2 B2 HLW
  go_wp2_with fail
  refine (HRem.out w4 B4).mono ?_
  rintro e w5 ⟨rfl, va', T, hM5, hl5, hi5, hn5, hm5, hk5, hs5, hva5, ht5⟩
  rw [HHE.out] at ht5 hM5
  have HTD : Hid (Tur (D v.ky).foot w4 w5) := ht5
  have r5 : QuR B w5 q (some (bm, bh)) nA A nH Hm := (HH.out.r.below B4).kept (HTD.out.kept _ kl4 fun e => (HFQ.out _ e).2.1 rfl) fun y z e => by
    cases e
    obtain ⟨o1, o2, -⟩ := (HH.out.r.below B4).on bm bh rfl
    exact ⟨HTD.out.kept _ o1.lt fun e => (HFQ.out _ e).2.2.1 rfl, HTD.out.kept _ o2.lt fun e => (HFQ.out _ e).2.2.2 rfl⟩
  have A5 := (HTD.out.kept X (lt_of_at A4) fun e => by have := (HFQ.out _ e).1; omega).trans A4
  have HT5 : Hid (Tur (D v.ky).foot w w5) := (Tur.of_below B4).then HTD.out
  have hlen := mlen_g hM5
  rw [← HHE.out] at hlen
  have HI := hid (And.intro hM5 (And.intro hl5 (And.intro hi5 (And.intro hm5 (And.intro hk5 (And.intro hs5 hva5))))))
  have HR5 := hid r5
  obtain ⟨N, hN⟩ : ∃ N, N = T.n := ⟨_, rfl⟩
  rw [← hN] at hlen
  have HN := hid hN
  have HRT : Hid (∀ (w9 : World) (nH' : Nat) (Hm' : HMap), ((T.n = 0 ∧ Hm' = delA Hm v.ky) ∨ (0 < T.n ∧ Hm' = Hm)) → nH' ≤ nH → QuR B w9 q (some (bm, bh)) (nA - 1) (delI A v.job) nH' Hm' → Tur (fun k => k = bm ∨ k = bh) w5 w9 → QB2 B w w9 q (some (bm, bh)) Hm D (delQ v.job L) c) := fun w9 nH' Hm' a1 a2 a3 a4 =>
    QuV.removed HH.out HV.out HI.out.1 HI.out.2.1 HI.out.2.2.1 HI.out.2.2.2.1 HI.out.2.2.2.2.1 HI.out.2.2.2.2.2.1 HI.out.2.2.2.2.2.2 HT5.out a1 a2 a3 a4
  have HDI : Hid (∀ (w8 : World) (nH' : Nat) (Hm' : HMap), QuR B w8 q (some (bm, bh)) nA A nH' Hm' → ∃ w9, (Builtin.delete_ #[51, 2] 0 #[.map (some bm), .int .i64 v.job]).run Try.prog w8 = .ok (.tuple #[]) w9 ∧ QuR B w9 q (some (bm, bh)) (nA - 1) (delI A v.job) nH' Hm' ∧ w8.grownBy w9 (some bm)) := fun w8 nH' Hm' r8 => by
    obtain ⟨w9, hrun9, ho9, hg9, -⟩ := OwnsI.drop (s := v.job) (r8.on bm bh rfl).1 Try.underlying2 Try.underlying51 HWF.out 0
    rw [HV.out] at ho9
    exact ⟨w9, hrun9, r8.putI ho9 hg9, hg9⟩
  clear hM5 hl5 hi5 hn5 hm5 hk5 hs5 hva5 ht5 A4 k0 kl4 hlw r5 hN HI
  go_wp2_with fail
  refine hlen.mono ?_
  rintro e w6 ⟨rfl, rfl⟩
  by_cases hz : N = 0
  · have hz' : (N : Int) = 0 := by omega
    have HNZ : Hid (T.n = 0) := by rw [← HN.out]; exact hz
    have hlX := lt_of_at A5
    have e0 : ∀ lx_ : Lat w5.heap.size w5, lx_.w.cell? ⟨q, 1, none⟩ = some (.map (some bh)) := fun lx_ => by rw [lx_.cell _ _ HR5.out.ltq]; exact HR5.out.head.2
    have f1 : ∀ lx_ : Lat w5.heap.size w5, lx_.w.cell? ⟨X, 1, none⟩ = some (.string v.ten) := fun lx_ => by rw [lx_.cell _ _ hlX]; exact (blk_cell A5 1).trans rfl
    clear hlen A5 hz hlX
    go_upto_region 7 with fail
    refine wp_region_lat_tail 6 (by kernel_rfl) (by kernel_rfl) ?_
    simp only [List.take_succ_cons, List.take_zero, List.drop_succ_cons, List.drop_zero]
    repeat (go_big_quiet_step (fail))
    refine wpQuiet_nil ?_
    rintro w7 ⟨x7, hx7⟩
    have hb7 := x7.h
    rw [← hx7] at hb7
    clear hx7 x7 e0 f1
    have r7 := HR5.out.below hb7
    obtain ⟨w8, hrun, ho, hg, -⟩ := OwnsM.drop (r7.on bm bh rfl).2.1 Try.underlying9 Try.underlying52 HSZ.out 0
    have r8 := r7.putH ho hg
    obtain ⟨w9, hrun9, r9, hg9⟩ := HDI.out w8 _ _ r8
    have FIN := hid (HRT.out w9 _ _ (.inl ⟨HNZ.out, rfl⟩) (by split <;> omega) r9 (((Tur.of_below hb7).then (Tur.of_grown hg (fun g e => .inl (.inr (by injection e with e; exact e.symm))))).then (Tur.of_grown hg9 (fun g e => .inl (.inl (by injection e with e; exact e.symm))))))
    have k8 : w8.cell? ⟨q, 0, none⟩ = some (.map (some bm)) := r8.head.1
    have kl8 : q < w8.heap.size := r8.ltq
    clear ho hg r7 hb7 r8 r9 hg9
    go_wp2
    go_ret
    exact ⟨rfl, FIN.out⟩
  · have hz' : ¬ (N : Int) = 0 := by omega
    obtain ⟨w9, hrun9, r9, hg9⟩ := HDI.out w5 _ _ HR5.out
    have FIN := hid (HRT.out w9 _ _ (.inr ⟨by have := HN.out; omega, rfl⟩) (Nat.le_refl _) r9 (Tur.of_grown hg9 (fun g e => .inl (.inl (by injection e with e; exact e.symm)))))
    have k8 : w5.cell? ⟨q, 0, none⟩ = some (.map (some bm)) := HR5.out.head.1
    have kl8 : q < w5.heap.size := HR5.out.ltq
    clear r9 hg9 hlen A5 hz
    go_wp2
    go_ret
    exact ⟨rfl, FIN.out⟩
end Go.Proofs.Ytingeijodooocaa
