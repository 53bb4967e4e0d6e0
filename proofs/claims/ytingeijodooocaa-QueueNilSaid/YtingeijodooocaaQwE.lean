/- QueueNil: calls on no queue; its walk. -/
import Derived.Test.YtingeijodooocaaQwC
namespace Go.Proofs.Ytingeijodooocaa
open Go.RowKit
variable {w0 w w' : World} {q g c : Nat} {L : List Wt} {u : Wt}
set_option maxHeartbeats 2000000 in
theorem nget (j : Int) (w : World) : Calls Try.prog 16 #[.pointer none, .int .i64 j] w fun e w' => e = .returned (.tuple #[.agg #[.int .i64 0, .string ByteArray.empty, .int .i64 0], .int .i64 3]) ∧ Below w.heap.size w w' := by
  go_enter Try.func16, Try.ntmps16
  go_wp2
  refine ret_row2 rfl w.heap.size #[.int .i64 0, .string ⟨#[]⟩, .int .i64 0] 29 _ rfl Try.underlying29 rfl infoW rfl (by apply Exists.intro; refine ⟨?_, ?_⟩; (focus ((repeat (first | (with_reducible assumption) | (with_reducible exact alloc_at _ _) | ((with_reducible apply alloc_at'); (simp; done)) | (with_reducible apply alloc_at_lt) | (with_reducible apply heap_drew_at) | (with_reducible apply heap_drewN_at) | (with_reducible apply heap_setCell_same) | ((with_reducible apply heap_set_ne); (first | omega | (dsimp only; omega) | (simp; done) | (simp; omega))) | (with_reducible apply setRow_at) | ((with_reducible apply setRow_ne); (first | omega | (dsimp only; omega) | (simp; done) | (simp; omega))))))); simp) ⟨rfl, (by repeat (first | with_reducible assumption | with_reducible exact Below.refl _ _ | with_reducible refine Below.drew ?_ | with_reducible refine below_drewN ?_ _ | with_reducible refine below_alloc ?_ _ | with_reducible refine Below.alloc ?_ (by first | omega | (simp; done) | (simp; omega)) _ | with_reducible refine Below.setCell ?_ (by first | omega | (simp; done) | (simp; omega)) _ | with_reducible refine below_setRow ?_ (by first | omega | (simp; done) | (simp; omega)) _))⟩
set_option maxHeartbeats 2000000 in
theorem nhead (s : ByteArray) (w : World) : Calls Try.prog 13 #[.pointer none, .string s] w fun e w' => e = .returned (.tuple #[.agg #[.int .i64 0, .string ByteArray.empty, .int .i64 0], .int .i64 3]) ∧ Below w.heap.size w w' := by
  go_enter Try.func13, Try.ntmps13
  go_wp2
  refine ret_row2 rfl w.heap.size #[.int .i64 0, .string ⟨#[]⟩, .int .i64 0] 29 _ rfl Try.underlying29 rfl infoW rfl (by apply Exists.intro; refine ⟨?_, ?_⟩; (focus ((repeat (first | (with_reducible assumption) | (with_reducible exact alloc_at _ _) | ((with_reducible apply alloc_at'); (simp; done)) | (with_reducible apply alloc_at_lt) | (with_reducible apply heap_drew_at) | (with_reducible apply heap_drewN_at) | (with_reducible apply heap_setCell_same) | ((with_reducible apply heap_set_ne); (first | omega | (dsimp only; omega) | (simp; done) | (simp; omega))) | (with_reducible apply setRow_at) | ((with_reducible apply setRow_ne); (first | omega | (dsimp only; omega) | (simp; done) | (simp; omega))))))); simp) ⟨rfl, (by repeat (first | with_reducible assumption | with_reducible exact Below.refl _ _ | with_reducible refine Below.drew ?_ | with_reducible refine below_drewN ?_ _ | with_reducible refine below_alloc ?_ _ | with_reducible refine Below.alloc ?_ (by first | omega | (simp; done) | (simp; omega)) _ | with_reducible refine Below.setCell ?_ (by first | omega | (simp; done) | (simp; omega)) _ | with_reducible refine below_setRow ?_ (by first | omega | (simp; done) | (simp; omega)) _))⟩
set_option maxHeartbeats 2000000 in
theorem nrem (j : Int) (w : World) : Calls Try.prog 17 #[.pointer none, .int .i64 j] w fun e w' => e = .returned (.int .i64 3) ∧ Below w.heap.size w w' := by
  go_enter Try.func17, Try.ntmps17
  go_wp2_with fail
  refine (nget j _).mono ?_
  rintro e w1 ⟨rfl, hb1⟩
  have hs1 := hb1.size
  go_wp2
  go_ret
  exact ⟨rfl, (by repeat (first | with_reducible assumption | with_reducible exact Below.refl _ _ | with_reducible refine Below.drew ?_ | with_reducible refine below_drewN ?_ _ | with_reducible refine below_alloc ?_ _ | with_reducible refine Below.alloc ?_ (by first | omega | (simp; done) | (simp; omega)) _ | with_reducible refine Below.setCell ?_ (by first | omega | (simp; done) | (simp; omega)) _ | with_reducible refine below_setRow ?_ (by first | omega | (simp; done) | (simp; omega)) _))⟩
theorem nlist (s : ByteArray) (w : World) : Calls Try.prog 14 #[.pointer none, .string s] w fun e w' => e = .returned (.slice none 0 0) ∧ w = w' := by
  go_enter Try.func14, Try.ntmps14
  go_wp2
  go_ret
  exact ⟨by simp, rfl⟩
theorem ntens (w : World) : Calls Try.prog 12 #[.pointer none] w fun e w' => e = .returned (.slice none 0 0) ∧ w = w' := by
  go_enter Try.func12, Try.ntmps12
  go_wp2
  go_ret
  exact ⟨by simp, rfl⟩
theorem nlen (w : World) : Calls Try.prog 15 #[.pointer none] w fun e w' => e = .returned (.int .i64 0) ∧ w = w' := by
  go_enter Try.func15, Try.ntmps15
  go_wp2
  go_ret
  exact ⟨by simp, rfl⟩
theorem ntop (w : World) : Calls Try.prog 11 #[.pointer none] w fun e w' => e = .returned (.tuple #[.int .i64 0, .slice none 0 0]) ∧ w = w' := by
  go_enter Try.func11, Try.ntmps11
  go_wp2_with fail
  refine (ntens _).mono ?_
  rintro e w1 ⟨rfl, rfl⟩
  go_wp2
  refine wp_loop_rounds 1 ?_
  rw [rounds_succ]
  go_wp2
  go_ret2
  exact ⟨rfl, rfl⟩
/-- The empty reference beside a new queue. -/
theorem Du.begin (h : QS w0 w q [] 0) : Du w0 (w.alloc (.cells #[.slice none 0 0] 46)) q w.heap.size [] [] 0 (fun _ => False) := by
  obtain ⟨⟨F, h1⟩, h2⟩ := h
  have hb : Below w.heap.size w (w.alloc (.cells #[.slice none 0 0] 46)) := (Below.refl _ _).alloc (Nat.le_refl _) _
  refine ⟨⟨F, .slice none 0 0, 0, h1.below hb, ⟨h2.size, alloc_at w _, World.ownsRow_nil _ _ _ _, fun b e => (by cases e)⟩, fun k hk => ⟨fun e => ?_, fun e => e⟩, fun k _ e => e⟩, h2.trans (hb.mono h2.size)⟩
  rcases e with e | e
  · have := (h1.foot hk).2; omega
  · cases e
theorem qs_zero (hb : Below w0.heap.size w0 w) : QS w0 (w.alloc (.cells #[.map none, .map none] 54)) w.heap.size [] 0 := by
  have hB : Below w.heap.size w (w.alloc (.cells #[.map none, .map none] 54)) := (Below.refl _ _).alloc (Nat.le_refl _) _
  refine ⟨⟨_, none, 0, noI, 0, noA, (fun _ => ⟨0, .slice none 0 0, .slice none 0 0, .slice none 0 0, mm0⟩), ⟨⟨hb.size, alloc_at w _, fun _ => ⟨rfl, rfl, rfl, rfl⟩, fun _ _ h => (by cases h)⟩, ?_, ?_, ?_, ?_, ?_, ?_, ⟨List.Pairwise.nil, List.Pairwise.nil⟩, ?_, rfl, by omega⟩, rfl, Nat.le_refl _⟩, hb.trans (hB.mono hb.size)⟩
  · intro t b h; cases h
  · intro t u b b' h; cases h
  · intro t b h; cases h
  · intro t b h; cases h
  · intro j v x h; cases h
  · intro j v x h; cases h
  · intro v
    constructor
    · intro h; cases h
    · rintro ⟨x, h⟩; cases h
set_option maxRecDepth 100000 in
set_option maxHeartbeats 16000000 in
theorem queueNil_any (u : Wt) (w : World) (hu : okW u) : Calls Try.prog 7 #[wtV u] w fun e w' => e = .returned (.bool true) ∧ Below w.heap.size w w' := by
  have HU := hid hu
  clear hu
  obtain ⟨j, t, p⟩ := u
  unfold wtV
  simp only
  go_enter Try.func7, Try.ntmps7
  go_upto_region 1 with (fail)
  refine wp_name ?_
  intro wb hwb
  have X0 : wb.heap[w.heap.size]? = some (.cells #[.int .i64 j, .string t, .int .i64 p] 29 (0, 0)) := by rw [hwb]; exact (by (repeat (first | (with_reducible assumption) | (with_reducible exact alloc_at _ _) | ((with_reducible apply alloc_at'); (simp; done)) | (with_reducible apply alloc_at_lt) | (with_reducible apply heap_drew_at) | (with_reducible apply heap_drewN_at) | (with_reducible apply heap_setCell_same) | ((with_reducible apply heap_set_ne); (first | omega | (dsimp only; omega) | (simp; done) | (simp; omega))) | (with_reducible apply setRow_at) | ((with_reducible apply setRow_ne); (first | omega | (dsimp only; omega) | (simp; done) | (simp; omega))))))
  have BB : Hid (Below w.heap.size w wb) := by unfold Hid; rw [hwb]; exact (by repeat (first | with_reducible assumption | with_reducible exact Below.refl _ _ | with_reducible refine Below.drew ?_ | with_reducible refine below_drewN ?_ _ | with_reducible refine below_alloc ?_ _ | with_reducible refine Below.alloc ?_ (by first | omega | (simp; done) | (simp; omega)) _ | with_reducible refine Below.setCell ?_ (by first | omega | (simp; done) | (simp; omega)) _ | with_reducible refine below_setRow ?_ (by first | omega | (simp; done) | (simp; omega)) _))
  obtain ⟨X, hX⟩ : ∃ X, X = w.heap.size := ⟨_, rfl⟩
  rw [← hX] at X0 ⊢
  have HX := hid X0
  have HXC : Hid (∀ W, Below wb.heap.size wb W → X < W.heap.size ∧ W.cell? ⟨X, 0, none⟩ = some (.int .i64 j) ∧ W.cell? ⟨X, 1, none⟩ = some (.string t) ∧ W.cell? ⟨X, 2, none⟩ = some (.int .i64 p)) := fun W hb => by
    have A1 := (hb.block _ (lt_of_at HX.out)).trans HX.out
    exact ⟨lt_of_at A1, (blk_cell A1 0).trans rfl, (blk_cell A1 1).trans rfl, (blk_cell A1 2).trans rfl⟩
  clear hwb X0 hX
  go_wp2_with fail
  refine (awake_q wb).mono ?_
  rintro e w1 ⟨rfl, hb1⟩
  have B1 : Hid (Below wb.heap.size wb w1) := hb1
  obtain ⟨xl, x0, x1, x2⟩ := HXC.out w1 hb1
  clear hb1
  go_wp2_with fail
  refine (nget j _).mono ?_
  rintro e w2 ⟨rfl, hb2⟩
  have hs2 := hb2.size
  have B2 : Hid (Below wb.heap.size wb w2) := B1.out.trans (hb2.mono B1.out.size)
  clear xl x0 x1 x2 hb2
  obtain ⟨xl, x0, x1, x2⟩ := HXC.out w2 B2.out
  go_wp2_with fail
  refine (nhead t _).mono ?_
  rintro e w3 ⟨rfl, hb3⟩
  have hb23 : Below w2.heap.size w2 w3 := Below.trans (by repeat (first | with_reducible assumption | with_reducible exact Below.refl _ _ | with_reducible refine Below.drew ?_ | with_reducible refine below_drewN ?_ _ | with_reducible refine below_alloc ?_ _ | with_reducible refine Below.alloc ?_ (by first | omega | (simp; done) | (simp; omega)) _ | with_reducible refine Below.setCell ?_ (by first | omega | (simp; done) | (simp; omega)) _ | with_reducible refine below_setRow ?_ (by first | omega | (simp; done) | (simp; omega)) _)) (hb3.mono (by first | omega | (simp; done) | (simp; omega)))
  have B3 : Hid (Below wb.heap.size wb w3) := B2.out.trans (hb23.mono B2.out.size)
  clear xl x0 x1 x2 hb3 hb23 hs2
  obtain ⟨xl, x0, x1, x2⟩ := HXC.out w3 B3.out
  go_wp2_with fail
  refine (ntop _).mono ?_
  rintro e w4 ⟨rfl, rfl⟩
  have hpn := fun W => qpush_none ⟨j, t, p⟩ W
  unfold wtV at hpn
  simp only at hpn
  have HPN := hid hpn
  clear hpn
  go_wp2_with fail
  refine (HPN.out _).mono ?_
  rintro e w5 ⟨rfl, hb5⟩
  have hb35 : Below w3.heap.size w3 w5 := Below.trans (by repeat (first | with_reducible assumption | with_reducible exact Below.refl _ _ | with_reducible refine Below.drew ?_ | with_reducible refine below_drewN ?_ _ | with_reducible refine below_alloc ?_ _ | with_reducible refine Below.alloc ?_ (by first | omega | (simp; done) | (simp; omega)) _ | with_reducible refine Below.setCell ?_ (by first | omega | (simp; done) | (simp; omega)) _ | with_reducible refine below_setRow ?_ (by first | omega | (simp; done) | (simp; omega)) _)) (hb5.mono (by first | omega | (simp; done) | (simp; omega)))
  have B5 : Hid (Below wb.heap.size wb w5) := B3.out.trans (hb35.mono B3.out.size)
  clear xl x0 x1 x2 hb5 hb35
  obtain ⟨xl, x0, x1, x2⟩ := HXC.out w5 B5.out
  go_wp2_with fail
  refine (nrem j _).mono ?_
  rintro e w6 ⟨rfl, hb6⟩
  have B6 : Hid (Below wb.heap.size wb w6) := B5.out.trans (hb6.mono B5.out.size)
  clear xl x0 x1 x2 hb6
  obtain ⟨xl, x0, x1, x2⟩ := HXC.out w6 B6.out
  go_wp2_with fail
  refine (nlist t _).mono ?_
  rintro e w7 ⟨rfl, rfl⟩
  go_wp2_with fail
  refine (ntens _).mono ?_
  rintro e w7 ⟨rfl, rfl⟩
  go_wp2_with fail
  refine (nlen _).mono ?_
  rintro e w7 ⟨rfl, rfl⟩
  go_upto_region 11 with fail
  have hd := Du.begin (qs_zero B6.out)
  simp only [World.size_alloc] at hd
  refine wp_name ?_
  intro w9 hw9
  rw [← hw9] at hd
  obtain ⟨q, hq⟩ : ∃ q, q = w6.heap.size := ⟨_, rfl⟩
  obtain ⟨g, hg⟩ : ∃ g, g = w6.heap.size + 1 := ⟨_, rfl⟩
  rw [← hg, ← hq] at hd
  rw [← hg, ← hq]
  have HD9 := hid hd
  clear xl x0 x1 x2 hw9 hq hg hd
  obtain ⟨xl, x0, x1, x2⟩ := HXC.out w9 HD9.out.bel
  obtain ⟨E, hE⟩ : ∃ E, E = errQ [] ⟨j, t, p⟩ := ⟨_, rfl⟩
  have HE := hid hE
  obtain ⟨L1, hL1⟩ : ∃ L1, L1 = pushQ [] ⟨j, t, p⟩ := ⟨_, rfl⟩
  have HL1 := hid hL1
  have HLL : Hid (L1.length ≤ 600) := by
    unfold Hid
    rw [hL1]
    unfold pushQ
    split
    · rw [(insQ_perm _ _).length_eq]; simp
    · simp
  clear hE hL1
  have HPU : Hid (∀ W, Below w9.heap.size w9 W → Calls Try.prog 10 #[.pointer (some ⟨q, 0, none⟩), .agg #[.int .i64 j, .string t, .int .i64 p]] W fun e w' => e = .returned (.int .i64 E) ∧ Du wb w' q g L1 [] (0 + 1) (fun _ => False)) := fun W hb => by
    refine (du_push (HD9.out.below hb) (fun k hk => hk.elim) (u := ⟨j, t, p⟩) HU.out.1 (by omega)).mono ?_
    rintro e w' ⟨rfl, h2, -⟩
    exact ⟨by rw [HE.out], by rw [HL1.out]; exact h2⟩
  have HRP : Hid (∀ W, Du wb W q g L1 [] (0 + 1) (fun _ => False) → Calls Try.prog 19 #[.pointer (some ⟨g, 0, none⟩), .agg #[.int .i64 j, .string t, .int .i64 p]] W fun e w' => e = .returned (.int .i64 E) ∧ Du wb w' q g L1 L1 (0 + 1) (fun _ => False)) := fun W hd => by
    refine (du_rpush hd ⟨List.Pairwise.nil, List.Pairwise.nil⟩ (by simp) (fun k hk => hk.elim) ⟨j, t, p⟩).mono ?_
    rintro e w' ⟨rfl, h2, -⟩
    exact ⟨by rw [HE.out], by rw [HL1.out] at h2 ⊢; exact h2⟩
  have HPL := hid (plain_q j p t)
  obtain ⟨M, hM⟩ : ∃ M, M = lsQ t.data.toList L1 := ⟨_, rfl⟩
  obtain ⟨N, hN⟩ : ∃ N, N = M.length := ⟨_, rfl⟩
  have HNB : Hid (N ≤ 100000) := by
    have h1 : (lsQ t.data.toList L1).length ≤ L1.length := List.length_filter_le _ _
    have := HLL.out
    rw [← hM, ← hN] at h1
    unfold Hid
    omega
  have HLs : Hid (∀ W, Du wb W q g L1 L1 (0 + 1) (fun _ => False) → Calls Try.prog 14 #[.pointer (some ⟨q, 0, none⟩), .string t] W fun e w' => ∃ v, e = .returned v ∧ w'.ownsRow W.heap.size 29 3 v N (flatR 3 fW M) ∧ Below W.heap.size W w') := fun W hb => by
    have := qs_list hb.qs t
    rw [← hM, ← hN] at this
    exact this
  have HRs : Hid (∀ W, Du wb W q g L1 L1 (0 + 1) (fun _ => False) → Calls Try.prog 22 #[.pointer (some ⟨g, 0, none⟩), .string t] W fun e w' => ∃ v, e = .returned v ∧ w'.ownsRow W.heap.size 56 3 v N (flatR 3 fW M) ∧ Below W.heap.size W w') := fun W hb => by
    have := hb.rlist (by have := HLL.out; omega) t
    rw [← hM, ← hN] at this
    exact this
  have hEE : (E == E) = true := by simp
  clear hM hN
  go_region_held3 (fun w' => w'.cell? ⟨X, 0, none⟩ = some (.int .i64 j) ∧ w'.cell? ⟨X, 1, none⟩ = some (.string t) ∧ w'.cell? ⟨X, 2, none⟩ = some (.int .i64 p)) ((refine ⟨?_, ?_, ?_⟩) <;> (first | (with_reducible assumption) | (go_keep; done))) (first
    | (go_at_call 10; refine (HPU.out _ (by repeat (first | with_reducible assumption | with_reducible exact Below.refl _ _ | with_reducible refine Below.drew ?_ | with_reducible refine below_drewN ?_ _ | with_reducible refine below_alloc ?_ _ | with_reducible refine Below.alloc ?_ (by first | omega | (simp; done) | (simp; omega)) _ | with_reducible refine Below.setCell ?_ (by first | omega | (simp; done) | (simp; omega)) _ | with_reducible refine below_setRow ?_ (by first | omega | (simp; done) | (simp; omega)) _))).mono ?_; rintro e w10 ⟨rfl, hd10⟩; obtain ⟨l10, a0, a1, a2⟩ := HXC.out w10 hd10.bel; have HD10 := hid hd10; clear hd10)
    | (go_at_call 20; refine (HPL.out _).mono ?_; rintro e w11 ⟨rfl, hb11⟩; have hc11 : Below w10.heap.size w10 w11 := Below.trans (by repeat (first | with_reducible assumption | with_reducible exact Below.refl _ _ | with_reducible refine Below.drew ?_ | with_reducible refine below_drewN ?_ _ | with_reducible refine below_alloc ?_ _ | with_reducible refine Below.alloc ?_ (by first | omega | (simp; done) | (simp; omega)) _ | with_reducible refine Below.setCell ?_ (by first | omega | (simp; done) | (simp; omega)) _ | with_reducible refine below_setRow ?_ (by first | omega | (simp; done) | (simp; omega)) _)) (hb11.mono (by first | omega | (simp; done) | (simp; omega))); have HD11 := hid (HD10.out.below hc11); obtain ⟨l11, b0, b1, b2⟩ := HXC.out w11 HD11.out.bel; clear hb11 hc11)
    | (go_at_call 19; refine (HRP.out _ (HD11.out.below (by repeat (first | with_reducible assumption | with_reducible exact Below.refl _ _ | with_reducible refine Below.drew ?_ | with_reducible refine below_drewN ?_ _ | with_reducible refine below_alloc ?_ _ | with_reducible refine Below.alloc ?_ (by first | omega | (simp; done) | (simp; omega)) _ | with_reducible refine Below.setCell ?_ (by first | omega | (simp; done) | (simp; omega)) _ | with_reducible refine below_setRow ?_ (by first | omega | (simp; done) | (simp; omega)) _)))).mono ?_; rintro e w12 ⟨rfl, hd12⟩; obtain ⟨l12, d0, d1, d2⟩ := HXC.out w12 hd12.bel; have HD12 := hid hd12; clear hd12)
    | (go_at_call 14; refine (HLs.out _ (HD12.out.below (by repeat (first | with_reducible assumption | with_reducible exact Below.refl _ _ | with_reducible refine Below.drew ?_ | with_reducible refine below_drewN ?_ _ | with_reducible refine below_alloc ?_ _ | with_reducible refine Below.alloc ?_ (by first | omega | (simp; done) | (simp; omega)) _ | with_reducible refine Below.setCell ?_ (by first | omega | (simp; done) | (simp; omega)) _ | with_reducible refine below_setRow ?_ (by first | omega | (simp; done) | (simp; omega)) _)))).mono ?_; rintro e w13 ⟨v13, rfl, hr13, hb13⟩; obtain ⟨A13, c13, rfl⟩ := rowR_shape hr13; have HS13 := hid (SlG.of_row (by omega) hr13); have hc13 : Below w12.heap.size w12 w13 := Below.trans (by repeat (first | with_reducible assumption | with_reducible exact Below.refl _ _ | with_reducible refine Below.drew ?_ | with_reducible refine below_drewN ?_ _ | with_reducible refine below_alloc ?_ _ | with_reducible refine Below.alloc ?_ (by first | omega | (simp; done) | (simp; omega)) _ | with_reducible refine Below.setCell ?_ (by first | omega | (simp; done) | (simp; omega)) _ | with_reducible refine below_setRow ?_ (by first | omega | (simp; done) | (simp; omega)) _)) (hb13.mono (by first | omega | (simp; done) | (simp; omega))); have HD13 := hid (HD12.out.below hc13); obtain ⟨l13, f0, f1, f2⟩ := HXC.out w13 HD13.out.bel; clear hr13 hb13 hc13)
    | (go_at_call 22; refine (HRs.out _ (HD13.out.below (by repeat (first | with_reducible assumption | with_reducible exact Below.refl _ _ | with_reducible refine Below.drew ?_ | with_reducible refine below_drewN ?_ _ | with_reducible refine below_alloc ?_ _ | with_reducible refine Below.alloc ?_ (by first | omega | (simp; done) | (simp; omega)) _ | with_reducible refine Below.setCell ?_ (by first | omega | (simp; done) | (simp; omega)) _ | with_reducible refine below_setRow ?_ (by first | omega | (simp; done) | (simp; omega)) _)))).mono ?_; rintro e w14 ⟨v14, rfl, hr14, hb14⟩; obtain ⟨A14, c14, rfl⟩ := rowR_shape hr14; have HS14 := hid (SlG.of_row (by omega) hr14); have hc14 : Below w13.heap.size w13 w14 := Below.trans (by repeat (first | with_reducible assumption | with_reducible exact Below.refl _ _ | with_reducible refine Below.drew ?_ | with_reducible refine below_drewN ?_ _ | with_reducible refine below_alloc ?_ _ | with_reducible refine Below.alloc ?_ (by first | omega | (simp; done) | (simp; omega)) _ | with_reducible refine Below.setCell ?_ (by first | omega | (simp; done) | (simp; omega)) _ | with_reducible refine below_setRow ?_ (by first | omega | (simp; done) | (simp; omega)) _)) (hb14.mono (by first | omega | (simp; done) | (simp; omega))); have HS34 := hid (HS13.out.below hc14); have HD14 := hid (HD13.out.below hc14); obtain ⟨l14, g0, g1, g2⟩ := HXC.out w14 HD14.out.bel; clear hr14 hb14 hc14)
    | (go_at_call 21; refine (same_q _ _ (HS34.out.below (by repeat (first | with_reducible assumption | with_reducible exact Below.refl _ _ | with_reducible refine Below.drew ?_ | with_reducible refine below_drewN ?_ _ | with_reducible refine below_alloc ?_ _ | with_reducible refine Below.alloc ?_ (by first | omega | (simp; done) | (simp; omega)) _ | with_reducible refine Below.setCell ?_ (by first | omega | (simp; done) | (simp; omega)) _ | with_reducible refine below_setRow ?_ (by first | omega | (simp; done) | (simp; omega)) _))) (HS14.out.below (by repeat (first | with_reducible assumption | with_reducible exact Below.refl _ _ | with_reducible refine Below.drew ?_ | with_reducible refine below_drewN ?_ _ | with_reducible refine below_alloc ?_ _ | with_reducible refine Below.alloc ?_ (by first | omega | (simp; done) | (simp; omega)) _ | with_reducible refine Below.setCell ?_ (by first | omega | (simp; done) | (simp; omega)) _ | with_reducible refine below_setRow ?_ (by first | omega | (simp; done) | (simp; omega)) _))) HNB.out).mono ?_; rintro e w15 ⟨rfl, hb15⟩; have hc15 : Below w14.heap.size w14 w15 := Below.trans (by repeat (first | with_reducible assumption | with_reducible exact Below.refl _ _ | with_reducible refine Below.drew ?_ | with_reducible refine below_drewN ?_ _ | with_reducible refine below_alloc ?_ _ | with_reducible refine Below.alloc ?_ (by first | omega | (simp; done) | (simp; omega)) _ | with_reducible refine Below.setCell ?_ (by first | omega | (simp; done) | (simp; omega)) _ | with_reducible refine below_setRow ?_ (by first | omega | (simp; done) | (simp; omega)) _)) (hb15.mono (by first | omega | (simp; done) | (simp; omega))); have HD15 := hid (HD14.out.below hc15); obtain ⟨l15, h0, h1, h2⟩ := HXC.out w15 HD15.out.bel; clear hb15 hc15))
  all_goals
    have FIN : Hid (Below w.heap.size w w15) := BB.out.trans (HD15.out.bel.mono BB.out.size)
    clear x0 x1 x2 a0 a1 a2 b0 b1 b2 d0 d1 d2 f0 f1 f2 g0 g1 g2 h0 h1 h2
    go_wp2
    go_ret
    exact ⟨by simp, FIN.out.trans (Below.mono (by repeat (first | with_reducible assumption | with_reducible exact Below.refl _ _ | with_reducible refine Below.drew ?_ | with_reducible refine below_drewN ?_ _ | with_reducible refine below_alloc ?_ _ | with_reducible refine Below.alloc ?_ (by first | omega | (simp; done) | (simp; omega)) _ | with_reducible refine Below.setCell ?_ (by first | omega | (simp; done) | (simp; omega)) _ | with_reducible refine below_setRow ?_ (by first | omega | (simp; done) | (simp; omega)) _)) FIN.out.size)⟩
end Go.Proofs.Ytingeijodooocaa
