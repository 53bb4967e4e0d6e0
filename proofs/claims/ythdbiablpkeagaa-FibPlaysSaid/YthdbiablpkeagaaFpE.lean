/- FibPlays: one step: one walk for each kind of call. -/
import Derived.Test.YthdbiablpkeagaaFpD
namespace Go.Proofs.Ythdbiablpkeagaa
open Go.RowKit
variable {B N : Nat} {A : Nat → Nat} {Q : Nat → Prop} {w w' : World}
set_option maxRecDepth 100000 in
set_option maxHeartbeats 8000000 in
theorem step_1 (hP : P3 B w A N Q) (hN : N < 100000) (hh nn : Int) (k : K3) (hk : okW k) : Calls Try.prog 19 #[lA A 0 1 2, lA A 3 4 5, oA 1 hh nn k.1 k.2.1 k.2.2] w fun e w' => e = .returned (.bool true) ∧ Fin B N A Q w w' := by
  obtain ⟨u, i, j0, j1, j2, hi⟩ := rest3 hh
  have HP := hid hP
  have HK := hid hk
  have HI := hid hi
  have hii : (i : Int) < 3 := by omega
  have HN := hid hN
  obtain ⟨k0, k1, k2⟩ := k
  simp only
  unfold lA oA pA
  clear hP hk hN
  go_enter Try.func19, Try.ntmps19
  go_upto_region 1 with (fail)
  refine wp_name ?_
  intro w1 hw1
  have b1 : Below w.heap.size w w1 := by rw [hw1]; exact (by repeat (first | with_reducible assumption | with_reducible exact Below.refl _ _ | with_reducible refine Below.drew ?_ | with_reducible refine below_drewN ?_ _ | with_reducible refine below_alloc ?_ _ | with_reducible refine Below.alloc ?_ (by first | omega | (simp; done) | (simp; omega)) _ | with_reducible refine Below.setCell ?_ (by first | omega | (simp; done) | (simp; omega)) _ | with_reducible refine below_setRow ?_ (by first | omega | (simp; done) | (simp; omega)) _))
  have X1 : Hid (Bx w1 (Qx Q w.heap.size w1.heap.size) A w.heap.size (w.heap.size + 1) (w.heap.size + 1 + 1) 1 hh nn k0 k1 k2) := by
    refine ⟨by rw [hw1]; exact (by (repeat (first | (with_reducible assumption) | (with_reducible exact alloc_at _ _) | ((with_reducible apply alloc_at'); (simp; done)) | (with_reducible apply alloc_at_lt) | (with_reducible apply heap_drew_at) | (with_reducible apply heap_drewN_at) | (with_reducible apply heap_setCell_same) | ((with_reducible apply heap_set_ne); (first | omega | (dsimp only; omega) | (simp; done) | (simp; omega))) | (with_reducible apply setRow_at) | ((with_reducible apply setRow_ne); (first | omega | (dsimp only; omega) | (simp; done) | (simp; omega)))))), by rw [hw1]; exact (by (repeat (first | (with_reducible assumption) | (with_reducible exact alloc_at _ _) | ((with_reducible apply alloc_at'); (simp; done)) | (with_reducible apply alloc_at_lt) | (with_reducible apply heap_drew_at) | (with_reducible apply heap_drewN_at) | (with_reducible apply heap_setCell_same) | ((with_reducible apply heap_set_ne); (first | omega | (dsimp only; omega) | (simp; done) | (simp; omega))) | (with_reducible apply setRow_at) | ((with_reducible apply setRow_ne); (first | omega | (dsimp only; omega) | (simp; done) | (simp; omega)))))), by rw [hw1]; exact at_of (by apply Exists.intro; refine ⟨?_, ?_⟩; (focus ((repeat (first | (with_reducible assumption) | (with_reducible exact alloc_at _ _) | ((with_reducible apply alloc_at'); (simp; done)) | (with_reducible apply alloc_at_lt) | (with_reducible apply heap_drew_at) | (with_reducible apply heap_drewN_at) | (with_reducible apply heap_setCell_same) | ((with_reducible apply heap_set_ne); (first | omega | (dsimp only; omega) | (simp; done) | (simp; omega))) | (with_reducible apply setRow_at) | ((with_reducible apply setRow_ne); (first | omega | (dsimp only; omega) | (simp; done) | (simp; omega))))))); simp), .inr ?_, .inr ?_, .inr ?_⟩ <;> (rw [hw1]; simp; try omega)
  have HB1 := hid b1
  have HP1 := hid (HP.out.below b1)
  obtain ⟨bl, hbl⟩ : ∃ x, x = w.heap.size := ⟨_, rfl⟩
  obtain ⟨bw, hbw⟩ : ∃ x, x = bl + 1 := ⟨_, rfl⟩
  obtain ⟨bo, hbo⟩ : ∃ x, x = bw + 1 := ⟨_, rfl⟩
  obtain ⟨Q1, hQ1⟩ : ∃ x, x = Qx Q w.heap.size w1.heap.size := ⟨_, rfl⟩
  have HQ1 : Hid (∀ k, Q k → Q1 k) := by rw [hQ1]; exact qx_le
  rw [← hQ1] at X1 HP1
  rw [← hbl] at X1
  rw [← hbw, ← hbo] at X1
  rw [← hbl]
  rw [← hbw, ← hbo]
  have HF : Hid (∀ W Q2, (∀ k, Q1 k → Q2 k) → P3 B W A (N + 1) Q2 → Kp Q1 w1 W → Fin B N A Q w W) := fun W Q2 hq hp hk => ⟨hp.less fun k h => hq k (HQ1.out k h), (Kp.of_below HB1.out).trans (hk.lessT HQ1.out)⟩
  clear hw1 b1 hbl hbw hbo hQ1 HP HB1 HQ1
  have l1 : w1.cell? ⟨bl, i, none⟩ = some (.pointer (some ⟨A i, 0, none⟩)) := cell3 X1.out.l hi
  have r1 : w1.cell? ⟨bw, i, none⟩ = some (.pointer (some ⟨A (i + 3), 0, none⟩)) := cell3 X1.out.r hi
  have o0 := (blk_cell X1.out.o 0).trans rfl
  have o1 := (blk_cell X1.out.o 1).trans rfl
  have o2 := (blk_cell X1.out.o 2).trans rfl
  have o3 := (blk_cell X1.out.o 3).trans rfl
  have o4 := (blk_cell X1.out.o 4).trans rfl
  have o5 := (blk_cell X1.out.o 5).trans rfl
  clear hi
  go_upto_region 2 with (fail)
  go_region
  go_upto_region 4 with (fail)
  refine wp_name ?_
  intro w2 hw2
  have b2 : Below w1.heap.size w1 w2 := by rw [hw2]; exact (by repeat (first | with_reducible assumption | with_reducible exact Below.refl _ _ | with_reducible refine Below.drew ?_ | with_reducible refine below_drewN ?_ _ | with_reducible refine below_alloc ?_ _ | with_reducible refine Below.alloc ?_ (by first | omega | (simp; done) | (simp; omega)) _ | with_reducible refine Below.setCell ?_ (by first | omega | (simp; done) | (simp; omega)) _ | with_reducible refine below_setRow ?_ (by first | omega | (simp; done) | (simp; omega)) _))
  have HP2 := hid ((HP1.out.below b2).less qx_le)
  have X2 := hid (X1.out.kept (Kp.of_below b2))
  have HF2 : Hid (∀ W Q2, (∀ k, Q1 k → Q2 k) → P3 B W A (N + 1) Q2 → Kp Q1 w2 W → Fin B N A Q w W) := fun W Q2 hq hp hk => HF.out W Q2 hq hp ((Kp.of_below b2).trans hk)
  clear hw2 b2 HP1 X1 HF l1 r1 o0 o1 o2 o3 o4 o5
  have o3 := (blk_cell X2.out.o 3).trans rfl
  have o4 := (blk_cell X2.out.o 4).trans rfl
  have o5 := (blk_cell X2.out.o 5).trans rfl
  obtain ⟨x, ee, hb⟩ := HP2.out.insert HI.out (by have := HN.out; omega) (k0, k1, k2) HK.out
  have HB := hid hb
  unfold Both pA kA at HB
  simp only at HB
  clear hb HP2
  go_wp2_with fail
  refine HB.out.mono ?_
  rintro e w3 ⟨rfl, k3, s3, hh⟩
  have HH := hid hh
  have X3 := hid (X2.out.kept k3)
  have K3 := hid k3
  clear hh k3 o3 o4 o5 HB X2
  have o3 := (blk_cell X3.out.o 3).trans rfl
  have o4 := (blk_cell X3.out.o 4).trans rfl
  have o5 := (blk_cell X3.out.o 5).trans rfl
  go_wp2_with fail
  refine (plain_g k0 k1 k2 _).mono ?_
  rintro e w4 ⟨rfl, hb4⟩
  have B4 := hid hb4
  clear hb4 o3 o4 o5 X3
  go_wp2_with fail
  refine (HH.out _ B4.out).mono ?_
  rintro e w5 ⟨rfl, k5, s5, p5⟩
  have F := hid (HF2.out _ _ qx_le p5 (K3.out.trans ((Kp.of_below B4.out).trans (k5.lessT qx_le))))
  clear HH k5 s5 p5 HF2 K3 B4 s3
  go_wp2
  go_ret
  exact ⟨rfl, F.out⟩
set_option maxRecDepth 100000 in
set_option maxHeartbeats 8000000 in
theorem step_2 (hP : P3 B w A N Q) (hN : N < 100000) (hh nn : Int) (k : K3) (hk : okW k) : Calls Try.prog 19 #[lA A 0 1 2, lA A 3 4 5, oA 2 hh nn k.1 k.2.1 k.2.2] w fun e w' => e = .returned (.bool true) ∧ Fin B N A Q w w' := by
  obtain ⟨u, i, j0, j1, j2, hi⟩ := rest3 hh
  have HP := hid hP
  have HK := hid hk
  have HI := hid hi
  have hii : (i : Int) < 3 := by omega
  have HN := hid hN
  obtain ⟨k0, k1, k2⟩ := k
  simp only
  unfold lA oA pA
  clear hP hk hN
  go_enter Try.func19, Try.ntmps19
  go_upto_region 1 with (fail)
  refine wp_name ?_
  intro w1 hw1
  have b1 : Below w.heap.size w w1 := by rw [hw1]; exact (by repeat (first | with_reducible assumption | with_reducible exact Below.refl _ _ | with_reducible refine Below.drew ?_ | with_reducible refine below_drewN ?_ _ | with_reducible refine below_alloc ?_ _ | with_reducible refine Below.alloc ?_ (by first | omega | (simp; done) | (simp; omega)) _ | with_reducible refine Below.setCell ?_ (by first | omega | (simp; done) | (simp; omega)) _ | with_reducible refine below_setRow ?_ (by first | omega | (simp; done) | (simp; omega)) _))
  have X1 : Hid (Bx w1 (Qx Q w.heap.size w1.heap.size) A w.heap.size (w.heap.size + 1) (w.heap.size + 1 + 1) 2 hh nn k0 k1 k2) := by
    refine ⟨by rw [hw1]; exact (by (repeat (first | (with_reducible assumption) | (with_reducible exact alloc_at _ _) | ((with_reducible apply alloc_at'); (simp; done)) | (with_reducible apply alloc_at_lt) | (with_reducible apply heap_drew_at) | (with_reducible apply heap_drewN_at) | (with_reducible apply heap_setCell_same) | ((with_reducible apply heap_set_ne); (first | omega | (dsimp only; omega) | (simp; done) | (simp; omega))) | (with_reducible apply setRow_at) | ((with_reducible apply setRow_ne); (first | omega | (dsimp only; omega) | (simp; done) | (simp; omega)))))), by rw [hw1]; exact (by (repeat (first | (with_reducible assumption) | (with_reducible exact alloc_at _ _) | ((with_reducible apply alloc_at'); (simp; done)) | (with_reducible apply alloc_at_lt) | (with_reducible apply heap_drew_at) | (with_reducible apply heap_drewN_at) | (with_reducible apply heap_setCell_same) | ((with_reducible apply heap_set_ne); (first | omega | (dsimp only; omega) | (simp; done) | (simp; omega))) | (with_reducible apply setRow_at) | ((with_reducible apply setRow_ne); (first | omega | (dsimp only; omega) | (simp; done) | (simp; omega)))))), by rw [hw1]; exact at_of (by apply Exists.intro; refine ⟨?_, ?_⟩; (focus ((repeat (first | (with_reducible assumption) | (with_reducible exact alloc_at _ _) | ((with_reducible apply alloc_at'); (simp; done)) | (with_reducible apply alloc_at_lt) | (with_reducible apply heap_drew_at) | (with_reducible apply heap_drewN_at) | (with_reducible apply heap_setCell_same) | ((with_reducible apply heap_set_ne); (first | omega | (dsimp only; omega) | (simp; done) | (simp; omega))) | (with_reducible apply setRow_at) | ((with_reducible apply setRow_ne); (first | omega | (dsimp only; omega) | (simp; done) | (simp; omega))))))); simp), .inr ?_, .inr ?_, .inr ?_⟩ <;> (rw [hw1]; simp; try omega)
  have HB1 := hid b1
  have HP1 := hid (HP.out.below b1)
  obtain ⟨bl, hbl⟩ : ∃ x, x = w.heap.size := ⟨_, rfl⟩
  obtain ⟨bw, hbw⟩ : ∃ x, x = bl + 1 := ⟨_, rfl⟩
  obtain ⟨bo, hbo⟩ : ∃ x, x = bw + 1 := ⟨_, rfl⟩
  obtain ⟨Q1, hQ1⟩ : ∃ x, x = Qx Q w.heap.size w1.heap.size := ⟨_, rfl⟩
  have HQ1 : Hid (∀ k, Q k → Q1 k) := by rw [hQ1]; exact qx_le
  rw [← hQ1] at X1 HP1
  rw [← hbl] at X1
  rw [← hbw, ← hbo] at X1
  rw [← hbl]
  rw [← hbw, ← hbo]
  have HF : Hid (∀ W Q2, (∀ k, Q1 k → Q2 k) → P3 B W A (N + 1) Q2 → Kp Q1 w1 W → Fin B N A Q w W) := fun W Q2 hq hp hk => ⟨hp.less fun k h => hq k (HQ1.out k h), (Kp.of_below HB1.out).trans (hk.lessT HQ1.out)⟩
  clear hw1 b1 hbl hbw hbo hQ1 HP HB1 HQ1
  have l1 : w1.cell? ⟨bl, i, none⟩ = some (.pointer (some ⟨A i, 0, none⟩)) := cell3 X1.out.l hi
  have r1 : w1.cell? ⟨bw, i, none⟩ = some (.pointer (some ⟨A (i + 3), 0, none⟩)) := cell3 X1.out.r hi
  have o0 := (blk_cell X1.out.o 0).trans rfl
  have o1 := (blk_cell X1.out.o 1).trans rfl
  have o2 := (blk_cell X1.out.o 2).trans rfl
  have o3 := (blk_cell X1.out.o 3).trans rfl
  have o4 := (blk_cell X1.out.o 4).trans rfl
  have o5 := (blk_cell X1.out.o 5).trans rfl
  clear hi
  go_upto_region 2 with (fail)
  go_region
  go_upto_region 4 with (fail)
  refine wp_name ?_
  intro w2 hw2
  have b2 : Below w1.heap.size w1 w2 := by rw [hw2]; exact (by repeat (first | with_reducible assumption | with_reducible exact Below.refl _ _ | with_reducible refine Below.drew ?_ | with_reducible refine below_drewN ?_ _ | with_reducible refine below_alloc ?_ _ | with_reducible refine Below.alloc ?_ (by first | omega | (simp; done) | (simp; omega)) _ | with_reducible refine Below.setCell ?_ (by first | omega | (simp; done) | (simp; omega)) _ | with_reducible refine below_setRow ?_ (by first | omega | (simp; done) | (simp; omega)) _))
  have HP2 := hid ((HP1.out.below b2).less qx_le)
  have X2 := hid (X1.out.kept (Kp.of_below b2))
  have HF2 : Hid (∀ W Q2, (∀ k, Q1 k → Q2 k) → P3 B W A (N + 1) Q2 → Kp Q1 w2 W → Fin B N A Q w W) := fun W Q2 hq hp hk => HF.out W Q2 hq hp ((Kp.of_below b2).trans hk)
  clear hw2 b2 HP1 X1 HF l1 r1 o0 o1 o2 o3 o4 o5
  obtain ⟨x, kk, ee, hb⟩ := HP2.out.min HI.out
  obtain ⟨z0, z1, z2⟩ := kk
  have HB := hid hb
  unfold Both pA kA at HB
  simp only at HB
  clear hb HP2
  go_wp2_with fail
  refine HB.out.mono ?_
  rintro e w3 ⟨rfl, k3, s3, hh⟩
  have HH := hid hh
  have K3 := hid k3
  clear hh HB
  go_upto_region 10 with (fail)
  refine wp_name ?_
  intro w4 hw4
  have b4 : Below w3.heap.size w3 w4 := by rw [hw4]; exact (by repeat (first | with_reducible assumption | with_reducible exact Below.refl _ _ | with_reducible refine Below.drew ?_ | with_reducible refine below_drewN ?_ _ | with_reducible refine below_alloc ?_ _ | with_reducible refine Below.alloc ?_ (by first | omega | (simp; done) | (simp; omega)) _ | with_reducible refine Below.setCell ?_ (by first | omega | (simp; done) | (simp; omega)) _ | with_reducible refine below_setRow ?_ (by first | omega | (simp; done) | (simp; omega)) _))
  have P4 : w4.heap[w3.heap.size]? = some (.cells #[.int .u64 z0, .int .u64 z1, .int .i64 z2] 33 (0, 0)) := by rw [hw4]; exact at_of (by apply Exists.intro; refine ⟨?_, ?_⟩; (focus ((repeat (first | (with_reducible assumption) | (with_reducible exact alloc_at _ _) | ((with_reducible apply alloc_at'); (simp; done)) | (with_reducible apply alloc_at_lt) | (with_reducible apply heap_drew_at) | (with_reducible apply heap_drewN_at) | (with_reducible apply heap_setCell_same) | ((with_reducible apply heap_set_ne); (first | omega | (dsimp only; omega) | (simp; done) | (simp; omega))) | (with_reducible apply setRow_at) | ((with_reducible apply setRow_ne); (first | omega | (dsimp only; omega) | (simp; done) | (simp; omega))))))); simp)
  have B4 := hid b4
  obtain ⟨p, hp⟩ : ∃ p, p = w3.heap.size := ⟨_, rfl⟩
  have hpq : w3.heap.size ≤ p ∧ p < w4.heap.size := ⟨by omega, by rw [hp]; exact lt_of_at P4⟩
  have HPQ := hid hpq
  rw [← hp] at P4 ⊢
  have HP4 := hid P4
  clear hw4 b4 P4 hp hpq k3 X2
  go_wp2_with fail
  refine (HH.out _ B4.out).mono ?_
  rintro e w5 ⟨rfl, k5, s5, p5⟩
  have HP5 := hid ((k5.at HPQ.out.2 (.inr HPQ.out)).trans HP4.out)
  have F5 : Hid (∀ W, Below w5.heap.size w5 W → Fin B N A Q w W) := fun W hW => HF2.out _ _ (fun k h => .inl (.inl h)) ((p5.below hW).up (by omega)) ((K3.out.trans ((Kp.of_below B4.out).trans (k5.lessT qx_le))).trans (Kp.of_below hW))
  clear HH k5 s5 p5 HF2 K3 B4 s3 HPQ HP4
  go_upto_region 11 with (fail)
  refine wp_name ?_
  intro w6 hw6
  have b6 : Below w5.heap.size w5 w6 := by rw [hw6]; exact (by repeat (first | with_reducible assumption | with_reducible exact Below.refl _ _ | with_reducible refine Below.drew ?_ | with_reducible refine below_drewN ?_ _ | with_reducible refine below_alloc ?_ _ | with_reducible refine Below.alloc ?_ (by first | omega | (simp; done) | (simp; omega)) _ | with_reducible refine Below.setCell ?_ (by first | omega | (simp; done) | (simp; omega)) _ | with_reducible refine below_setRow ?_ (by first | omega | (simp; done) | (simp; omega)) _))
  have X6 : w6.heap[w5.heap.size]? = some (.cells #[.int .u64 z0, .int .u64 z1, .int .i64 z2] 36 (0, 0)) := by rw [hw6]; exact at_of (by apply Exists.intro; refine ⟨?_, ?_⟩; (focus ((repeat (first | (with_reducible assumption) | (with_reducible exact alloc_at _ _) | ((with_reducible apply alloc_at'); (simp; done)) | (with_reducible apply alloc_at_lt) | (with_reducible apply heap_drew_at) | (with_reducible apply heap_drewN_at) | (with_reducible apply heap_setCell_same) | ((with_reducible apply heap_set_ne); (first | omega | (dsimp only; omega) | (simp; done) | (simp; omega))) | (with_reducible apply setRow_at) | ((with_reducible apply setRow_ne); (first | omega | (dsimp only; omega) | (simp; done) | (simp; omega))))))); simp)
  have HP6 := hid (below_at b6 (lt_of_at HP5.out) HP5.out)
  have HB6 := hid b6
  have hne : p ≠ w5.heap.size := by have := lt_of_at HP5.out; omega
  obtain ⟨p2, hp2⟩ : ∃ p2, p2 = w5.heap.size := ⟨_, rfl⟩
  rw [← hp2] at X6 hne ⊢
  have HX6 := hid X6
  have HE := eqKr
  clear hw6 b6 X6 hp2 HP5
  go_region_held3 (fun w' => w'.cell? ⟨p, 0, none⟩ = some (.int .u64 z0) ∧ w'.cell? ⟨p, 1, none⟩ = some (.int .u64 z1) ∧ w'.cell? ⟨p, 2, none⟩ = some (.int .i64 z2) ∧ w'.cell? ⟨p2, 0, none⟩ = some (.int .u64 z0) ∧ w'.cell? ⟨p2, 1, none⟩ = some (.int .u64 z1) ∧ w'.cell? ⟨p2, 2, none⟩ = some (.int .i64 z2)) (((try go_split_ands); (try dsimp only); refine keepKK (k := (z0, z1, z2)) (l := (z0, z1, z2)) HP6.out HX6.out ?_; (repeat (first | with_reducible assumption | with_reducible exact Below.refl _ _ | with_reducible refine Below.drew ?_ | with_reducible refine below_drewN ?_ _ | with_reducible refine below_alloc ?_ _ | with_reducible refine Below.alloc ?_ (by first | omega | (simp; done) | (simp; omega)) _ | with_reducible refine Below.setCell ?_ (by first | omega | (simp; done) | (simp; omega)) _ | with_reducible refine below_setRow ?_ (by first | omega | (simp; done) | (simp; omega)) _)))) (first | (go_at_call 13; refine (plain_g _ _ _ _).mono ?_; rintro e w91 ⟨rfl, b91⟩; have D91 : Below w6.heap.size w6 w91 := Below.trans (by repeat (first | with_reducible assumption | with_reducible exact Below.refl _ _ | with_reducible refine Below.drew ?_ | with_reducible refine below_drewN ?_ _ | with_reducible refine below_alloc ?_ _ | with_reducible refine Below.alloc ?_ (by first | omega | (simp; done) | (simp; omega)) _ | with_reducible refine Below.setCell ?_ (by first | omega | (simp; done) | (simp; omega)) _ | with_reducible refine below_setRow ?_ (by first | omega | (simp; done) | (simp; omega)) _)) (b91.mono (Below.size (B := w6.heap.size) (w := w6) (by repeat (first | with_reducible assumption | with_reducible exact Below.refl _ _ | with_reducible refine Below.drew ?_ | with_reducible refine below_drewN ?_ _ | with_reducible refine below_alloc ?_ _ | with_reducible refine Below.alloc ?_ (by first | omega | (simp; done) | (simp; omega)) _ | with_reducible refine Below.setCell ?_ (by first | omega | (simp; done) | (simp; omega)) _ | with_reducible refine below_setRow ?_ (by first | omega | (simp; done) | (simp; omega)) _))))))
  all_goals
    have F := hid (F5.out _ (HB6.out.trans (D91.mono HB6.out.size)))
    clear D91 b91 F5 HP6 HX6
    go_wp2
    go_ret
    exact ⟨rfl, F.out⟩
set_option maxRecDepth 100000 in
set_option maxHeartbeats 8000000 in
theorem step_3 (hP : P3 B w A N Q) (hN : N < 100000) (hh nn : Int) (k : K3) (hk : okW k) : Calls Try.prog 19 #[lA A 0 1 2, lA A 3 4 5, oA 3 hh nn k.1 k.2.1 k.2.2] w fun e w' => e = .returned (.bool true) ∧ Fin B N A Q w w' := by
  obtain ⟨u, i, j0, j1, j2, hi⟩ := rest3 hh
  have HP := hid hP
  have HK := hid hk
  have HI := hid hi
  have hii : (i : Int) < 3 := by omega
  have HN := hid hN
  obtain ⟨k0, k1, k2⟩ := k
  simp only
  unfold lA oA pA
  clear hP hk hN
  go_enter Try.func19, Try.ntmps19
  go_upto_region 1 with (fail)
  refine wp_name ?_
  intro w1 hw1
  have b1 : Below w.heap.size w w1 := by rw [hw1]; exact (by repeat (first | with_reducible assumption | with_reducible exact Below.refl _ _ | with_reducible refine Below.drew ?_ | with_reducible refine below_drewN ?_ _ | with_reducible refine below_alloc ?_ _ | with_reducible refine Below.alloc ?_ (by first | omega | (simp; done) | (simp; omega)) _ | with_reducible refine Below.setCell ?_ (by first | omega | (simp; done) | (simp; omega)) _ | with_reducible refine below_setRow ?_ (by first | omega | (simp; done) | (simp; omega)) _))
  have X1 : Hid (Bx w1 (Qx Q w.heap.size w1.heap.size) A w.heap.size (w.heap.size + 1) (w.heap.size + 1 + 1) 3 hh nn k0 k1 k2) := by
    refine ⟨by rw [hw1]; exact (by (repeat (first | (with_reducible assumption) | (with_reducible exact alloc_at _ _) | ((with_reducible apply alloc_at'); (simp; done)) | (with_reducible apply alloc_at_lt) | (with_reducible apply heap_drew_at) | (with_reducible apply heap_drewN_at) | (with_reducible apply heap_setCell_same) | ((with_reducible apply heap_set_ne); (first | omega | (dsimp only; omega) | (simp; done) | (simp; omega))) | (with_reducible apply setRow_at) | ((with_reducible apply setRow_ne); (first | omega | (dsimp only; omega) | (simp; done) | (simp; omega)))))), by rw [hw1]; exact (by (repeat (first | (with_reducible assumption) | (with_reducible exact alloc_at _ _) | ((with_reducible apply alloc_at'); (simp; done)) | (with_reducible apply alloc_at_lt) | (with_reducible apply heap_drew_at) | (with_reducible apply heap_drewN_at) | (with_reducible apply heap_setCell_same) | ((with_reducible apply heap_set_ne); (first | omega | (dsimp only; omega) | (simp; done) | (simp; omega))) | (with_reducible apply setRow_at) | ((with_reducible apply setRow_ne); (first | omega | (dsimp only; omega) | (simp; done) | (simp; omega)))))), by rw [hw1]; exact at_of (by apply Exists.intro; refine ⟨?_, ?_⟩; (focus ((repeat (first | (with_reducible assumption) | (with_reducible exact alloc_at _ _) | ((with_reducible apply alloc_at'); (simp; done)) | (with_reducible apply alloc_at_lt) | (with_reducible apply heap_drew_at) | (with_reducible apply heap_drewN_at) | (with_reducible apply heap_setCell_same) | ((with_reducible apply heap_set_ne); (first | omega | (dsimp only; omega) | (simp; done) | (simp; omega))) | (with_reducible apply setRow_at) | ((with_reducible apply setRow_ne); (first | omega | (dsimp only; omega) | (simp; done) | (simp; omega))))))); simp), .inr ?_, .inr ?_, .inr ?_⟩ <;> (rw [hw1]; simp; try omega)
  have HB1 := hid b1
  have HP1 := hid (HP.out.below b1)
  obtain ⟨bl, hbl⟩ : ∃ x, x = w.heap.size := ⟨_, rfl⟩
  obtain ⟨bw, hbw⟩ : ∃ x, x = bl + 1 := ⟨_, rfl⟩
  obtain ⟨bo, hbo⟩ : ∃ x, x = bw + 1 := ⟨_, rfl⟩
  obtain ⟨Q1, hQ1⟩ : ∃ x, x = Qx Q w.heap.size w1.heap.size := ⟨_, rfl⟩
  have HQ1 : Hid (∀ k, Q k → Q1 k) := by rw [hQ1]; exact qx_le
  rw [← hQ1] at X1 HP1
  rw [← hbl] at X1
  rw [← hbw, ← hbo] at X1
  rw [← hbl]
  rw [← hbw, ← hbo]
  have HF : Hid (∀ W Q2, (∀ k, Q1 k → Q2 k) → P3 B W A (N + 1) Q2 → Kp Q1 w1 W → Fin B N A Q w W) := fun W Q2 hq hp hk => ⟨hp.less fun k h => hq k (HQ1.out k h), (Kp.of_below HB1.out).trans (hk.lessT HQ1.out)⟩
  clear hw1 b1 hbl hbw hbo hQ1 HP HB1 HQ1
  have l1 : w1.cell? ⟨bl, i, none⟩ = some (.pointer (some ⟨A i, 0, none⟩)) := cell3 X1.out.l hi
  have r1 : w1.cell? ⟨bw, i, none⟩ = some (.pointer (some ⟨A (i + 3), 0, none⟩)) := cell3 X1.out.r hi
  have o0 := (blk_cell X1.out.o 0).trans rfl
  have o1 := (blk_cell X1.out.o 1).trans rfl
  have o2 := (blk_cell X1.out.o 2).trans rfl
  have o3 := (blk_cell X1.out.o 3).trans rfl
  have o4 := (blk_cell X1.out.o 4).trans rfl
  have o5 := (blk_cell X1.out.o 5).trans rfl
  clear hi
  go_upto_region 2 with (fail)
  go_region
  go_upto_region 4 with (fail)
  refine wp_name ?_
  intro w2 hw2
  have b2 : Below w1.heap.size w1 w2 := by rw [hw2]; exact (by repeat (first | with_reducible assumption | with_reducible exact Below.refl _ _ | with_reducible refine Below.drew ?_ | with_reducible refine below_drewN ?_ _ | with_reducible refine below_alloc ?_ _ | with_reducible refine Below.alloc ?_ (by first | omega | (simp; done) | (simp; omega)) _ | with_reducible refine Below.setCell ?_ (by first | omega | (simp; done) | (simp; omega)) _ | with_reducible refine below_setRow ?_ (by first | omega | (simp; done) | (simp; omega)) _))
  have HP2 := hid ((HP1.out.below b2).less qx_le)
  have X2 := hid (X1.out.kept (Kp.of_below b2))
  have HF2 : Hid (∀ W Q2, (∀ k, Q1 k → Q2 k) → P3 B W A (N + 1) Q2 → Kp Q1 w2 W → Fin B N A Q w W) := fun W Q2 hq hp hk => HF.out W Q2 hq hp ((Kp.of_below b2).trans hk)
  clear hw2 b2 HP1 X1 HF l1 r1 o0 o1 o2 o3 o4 o5
  obtain ⟨x, kk, ee, hb⟩ := HP2.out.pop HI.out
  obtain ⟨z0, z1, z2⟩ := kk
  have HB := hid hb
  unfold Both pA kA at HB
  simp only at HB
  clear hb HP2
  go_wp2_with fail
  refine HB.out.mono ?_
  rintro e w3 ⟨rfl, k3, s3, hh⟩
  have HH := hid hh
  have K3 := hid k3
  clear hh HB
  go_upto_region 14 with (fail)
  refine wp_name ?_
  intro w4 hw4
  have b4 : Below w3.heap.size w3 w4 := by rw [hw4]; exact (by repeat (first | with_reducible assumption | with_reducible exact Below.refl _ _ | with_reducible refine Below.drew ?_ | with_reducible refine below_drewN ?_ _ | with_reducible refine below_alloc ?_ _ | with_reducible refine Below.alloc ?_ (by first | omega | (simp; done) | (simp; omega)) _ | with_reducible refine Below.setCell ?_ (by first | omega | (simp; done) | (simp; omega)) _ | with_reducible refine below_setRow ?_ (by first | omega | (simp; done) | (simp; omega)) _))
  have P4 : w4.heap[w3.heap.size]? = some (.cells #[.int .u64 z0, .int .u64 z1, .int .i64 z2] 33 (0, 0)) := by rw [hw4]; exact at_of (by apply Exists.intro; refine ⟨?_, ?_⟩; (focus ((repeat (first | (with_reducible assumption) | (with_reducible exact alloc_at _ _) | ((with_reducible apply alloc_at'); (simp; done)) | (with_reducible apply alloc_at_lt) | (with_reducible apply heap_drew_at) | (with_reducible apply heap_drewN_at) | (with_reducible apply heap_setCell_same) | ((with_reducible apply heap_set_ne); (first | omega | (dsimp only; omega) | (simp; done) | (simp; omega))) | (with_reducible apply setRow_at) | ((with_reducible apply setRow_ne); (first | omega | (dsimp only; omega) | (simp; done) | (simp; omega))))))); simp)
  have B4 := hid b4
  obtain ⟨p, hp⟩ : ∃ p, p = w3.heap.size := ⟨_, rfl⟩
  have hpq : w3.heap.size ≤ p ∧ p < w4.heap.size := ⟨by omega, by rw [hp]; exact lt_of_at P4⟩
  have HPQ := hid hpq
  rw [← hp] at P4 ⊢
  have HP4 := hid P4
  clear hw4 b4 P4 hp hpq k3 X2
  go_wp2_with fail
  refine (HH.out _ B4.out).mono ?_
  rintro e w5 ⟨rfl, k5, s5, p5⟩
  have HP5 := hid ((k5.at HPQ.out.2 (.inr HPQ.out)).trans HP4.out)
  have F5 : Hid (∀ W, Below w5.heap.size w5 W → Fin B N A Q w W) := fun W hW => HF2.out _ _ (fun k h => .inl (.inl h)) ((p5.below hW).up (by omega)) ((K3.out.trans ((Kp.of_below B4.out).trans (k5.lessT qx_le))).trans (Kp.of_below hW))
  clear HH k5 s5 p5 HF2 K3 B4 s3 HPQ HP4
  go_upto_region 15 with (fail)
  refine wp_name ?_
  intro w6 hw6
  have b6 : Below w5.heap.size w5 w6 := by rw [hw6]; exact (by repeat (first | with_reducible assumption | with_reducible exact Below.refl _ _ | with_reducible refine Below.drew ?_ | with_reducible refine below_drewN ?_ _ | with_reducible refine below_alloc ?_ _ | with_reducible refine Below.alloc ?_ (by first | omega | (simp; done) | (simp; omega)) _ | with_reducible refine Below.setCell ?_ (by first | omega | (simp; done) | (simp; omega)) _ | with_reducible refine below_setRow ?_ (by first | omega | (simp; done) | (simp; omega)) _))
  have X6 : w6.heap[w5.heap.size]? = some (.cells #[.int .u64 z0, .int .u64 z1, .int .i64 z2] 36 (0, 0)) := by rw [hw6]; exact at_of (by apply Exists.intro; refine ⟨?_, ?_⟩; (focus ((repeat (first | (with_reducible assumption) | (with_reducible exact alloc_at _ _) | ((with_reducible apply alloc_at'); (simp; done)) | (with_reducible apply alloc_at_lt) | (with_reducible apply heap_drew_at) | (with_reducible apply heap_drewN_at) | (with_reducible apply heap_setCell_same) | ((with_reducible apply heap_set_ne); (first | omega | (dsimp only; omega) | (simp; done) | (simp; omega))) | (with_reducible apply setRow_at) | ((with_reducible apply setRow_ne); (first | omega | (dsimp only; omega) | (simp; done) | (simp; omega))))))); simp)
  have HP6 := hid (below_at b6 (lt_of_at HP5.out) HP5.out)
  have HB6 := hid b6
  have hne : p ≠ w5.heap.size := by have := lt_of_at HP5.out; omega
  obtain ⟨p2, hp2⟩ : ∃ p2, p2 = w5.heap.size := ⟨_, rfl⟩
  rw [← hp2] at X6 hne ⊢
  have HX6 := hid X6
  have HE := eqKr
  clear hw6 b6 X6 hp2 HP5
  go_region_held3 (fun w' => w'.cell? ⟨p, 0, none⟩ = some (.int .u64 z0) ∧ w'.cell? ⟨p, 1, none⟩ = some (.int .u64 z1) ∧ w'.cell? ⟨p, 2, none⟩ = some (.int .i64 z2) ∧ w'.cell? ⟨p2, 0, none⟩ = some (.int .u64 z0) ∧ w'.cell? ⟨p2, 1, none⟩ = some (.int .u64 z1) ∧ w'.cell? ⟨p2, 2, none⟩ = some (.int .i64 z2)) (((try go_split_ands); (try dsimp only); refine keepKK (k := (z0, z1, z2)) (l := (z0, z1, z2)) HP6.out HX6.out ?_; (repeat (first | with_reducible assumption | with_reducible exact Below.refl _ _ | with_reducible refine Below.drew ?_ | with_reducible refine below_drewN ?_ _ | with_reducible refine below_alloc ?_ _ | with_reducible refine Below.alloc ?_ (by first | omega | (simp; done) | (simp; omega)) _ | with_reducible refine Below.setCell ?_ (by first | omega | (simp; done) | (simp; omega)) _ | with_reducible refine below_setRow ?_ (by first | omega | (simp; done) | (simp; omega)) _)))) (first | (go_at_call 13; refine (plain_g _ _ _ _).mono ?_; rintro e w91 ⟨rfl, b91⟩; have D91 : Below w6.heap.size w6 w91 := Below.trans (by repeat (first | with_reducible assumption | with_reducible exact Below.refl _ _ | with_reducible refine Below.drew ?_ | with_reducible refine below_drewN ?_ _ | with_reducible refine below_alloc ?_ _ | with_reducible refine Below.alloc ?_ (by first | omega | (simp; done) | (simp; omega)) _ | with_reducible refine Below.setCell ?_ (by first | omega | (simp; done) | (simp; omega)) _ | with_reducible refine below_setRow ?_ (by first | omega | (simp; done) | (simp; omega)) _)) (b91.mono (Below.size (B := w6.heap.size) (w := w6) (by repeat (first | with_reducible assumption | with_reducible exact Below.refl _ _ | with_reducible refine Below.drew ?_ | with_reducible refine below_drewN ?_ _ | with_reducible refine below_alloc ?_ _ | with_reducible refine Below.alloc ?_ (by first | omega | (simp; done) | (simp; omega)) _ | with_reducible refine Below.setCell ?_ (by first | omega | (simp; done) | (simp; omega)) _ | with_reducible refine below_setRow ?_ (by first | omega | (simp; done) | (simp; omega)) _))))))
  all_goals
    have F := hid (F5.out _ (HB6.out.trans (D91.mono HB6.out.size)))
    clear D91 b91 F5 HP6 HX6
    go_wp2
    go_ret
    exact ⟨rfl, F.out⟩
set_option maxRecDepth 100000 in
set_option maxHeartbeats 8000000 in
theorem step_6 (hP : P3 B w A N Q) (hN : N < 100000) (hh nn : Int) (k : K3) (hk : okW k) : Calls Try.prog 19 #[lA A 0 1 2, lA A 3 4 5, oA 6 hh nn k.1 k.2.1 k.2.2] w fun e w' => e = .returned (.bool true) ∧ Fin B N A Q w w' := by
  obtain ⟨u, i, j0, j1, j2, hi⟩ := rest3 hh
  have HP := hid hP
  have HK := hid hk
  have HI := hid hi
  have hii : (i : Int) < 3 := by omega
  have HN := hid hN
  obtain ⟨k0, k1, k2⟩ := k
  simp only
  unfold lA oA pA
  clear hP hk hN
  go_enter Try.func19, Try.ntmps19
  go_upto_region 1 with (fail)
  refine wp_name ?_
  intro w1 hw1
  have b1 : Below w.heap.size w w1 := by rw [hw1]; exact (by repeat (first | with_reducible assumption | with_reducible exact Below.refl _ _ | with_reducible refine Below.drew ?_ | with_reducible refine below_drewN ?_ _ | with_reducible refine below_alloc ?_ _ | with_reducible refine Below.alloc ?_ (by first | omega | (simp; done) | (simp; omega)) _ | with_reducible refine Below.setCell ?_ (by first | omega | (simp; done) | (simp; omega)) _ | with_reducible refine below_setRow ?_ (by first | omega | (simp; done) | (simp; omega)) _))
  have X1 : Hid (Bx w1 (Qx Q w.heap.size w1.heap.size) A w.heap.size (w.heap.size + 1) (w.heap.size + 1 + 1) 6 hh nn k0 k1 k2) := by
    refine ⟨by rw [hw1]; exact (by (repeat (first | (with_reducible assumption) | (with_reducible exact alloc_at _ _) | ((with_reducible apply alloc_at'); (simp; done)) | (with_reducible apply alloc_at_lt) | (with_reducible apply heap_drew_at) | (with_reducible apply heap_drewN_at) | (with_reducible apply heap_setCell_same) | ((with_reducible apply heap_set_ne); (first | omega | (dsimp only; omega) | (simp; done) | (simp; omega))) | (with_reducible apply setRow_at) | ((with_reducible apply setRow_ne); (first | omega | (dsimp only; omega) | (simp; done) | (simp; omega)))))), by rw [hw1]; exact (by (repeat (first | (with_reducible assumption) | (with_reducible exact alloc_at _ _) | ((with_reducible apply alloc_at'); (simp; done)) | (with_reducible apply alloc_at_lt) | (with_reducible apply heap_drew_at) | (with_reducible apply heap_drewN_at) | (with_reducible apply heap_setCell_same) | ((with_reducible apply heap_set_ne); (first | omega | (dsimp only; omega) | (simp; done) | (simp; omega))) | (with_reducible apply setRow_at) | ((with_reducible apply setRow_ne); (first | omega | (dsimp only; omega) | (simp; done) | (simp; omega)))))), by rw [hw1]; exact at_of (by apply Exists.intro; refine ⟨?_, ?_⟩; (focus ((repeat (first | (with_reducible assumption) | (with_reducible exact alloc_at _ _) | ((with_reducible apply alloc_at'); (simp; done)) | (with_reducible apply alloc_at_lt) | (with_reducible apply heap_drew_at) | (with_reducible apply heap_drewN_at) | (with_reducible apply heap_setCell_same) | ((with_reducible apply heap_set_ne); (first | omega | (dsimp only; omega) | (simp; done) | (simp; omega))) | (with_reducible apply setRow_at) | ((with_reducible apply setRow_ne); (first | omega | (dsimp only; omega) | (simp; done) | (simp; omega))))))); simp), .inr ?_, .inr ?_, .inr ?_⟩ <;> (rw [hw1]; simp; try omega)
  have HB1 := hid b1
  have HP1 := hid (HP.out.below b1)
  obtain ⟨bl, hbl⟩ : ∃ x, x = w.heap.size := ⟨_, rfl⟩
  obtain ⟨bw, hbw⟩ : ∃ x, x = bl + 1 := ⟨_, rfl⟩
  obtain ⟨bo, hbo⟩ : ∃ x, x = bw + 1 := ⟨_, rfl⟩
  obtain ⟨Q1, hQ1⟩ : ∃ x, x = Qx Q w.heap.size w1.heap.size := ⟨_, rfl⟩
  have HQ1 : Hid (∀ k, Q k → Q1 k) := by rw [hQ1]; exact qx_le
  rw [← hQ1] at X1 HP1
  rw [← hbl] at X1
  rw [← hbw, ← hbo] at X1
  rw [← hbl]
  rw [← hbw, ← hbo]
  have HF : Hid (∀ W Q2, (∀ k, Q1 k → Q2 k) → P3 B W A (N + 1) Q2 → Kp Q1 w1 W → Fin B N A Q w W) := fun W Q2 hq hp hk => ⟨hp.less fun k h => hq k (HQ1.out k h), (Kp.of_below HB1.out).trans (hk.lessT HQ1.out)⟩
  clear hw1 b1 hbl hbw hbo hQ1 HP HB1 HQ1
  have l1 : w1.cell? ⟨bl, i, none⟩ = some (.pointer (some ⟨A i, 0, none⟩)) := cell3 X1.out.l hi
  have r1 : w1.cell? ⟨bw, i, none⟩ = some (.pointer (some ⟨A (i + 3), 0, none⟩)) := cell3 X1.out.r hi
  have o0 := (blk_cell X1.out.o 0).trans rfl
  have o1 := (blk_cell X1.out.o 1).trans rfl
  have o2 := (blk_cell X1.out.o 2).trans rfl
  have o3 := (blk_cell X1.out.o 3).trans rfl
  have o4 := (blk_cell X1.out.o 4).trans rfl
  have o5 := (blk_cell X1.out.o 5).trans rfl
  clear hi
  go_upto_region 2 with (fail)
  go_region
  go_upto_region 4 with (fail)
  refine wp_name ?_
  intro w2 hw2
  have b2 : Below w1.heap.size w1 w2 := by rw [hw2]; exact (by repeat (first | with_reducible assumption | with_reducible exact Below.refl _ _ | with_reducible refine Below.drew ?_ | with_reducible refine below_drewN ?_ _ | with_reducible refine below_alloc ?_ _ | with_reducible refine Below.alloc ?_ (by first | omega | (simp; done) | (simp; omega)) _ | with_reducible refine Below.setCell ?_ (by first | omega | (simp; done) | (simp; omega)) _ | with_reducible refine below_setRow ?_ (by first | omega | (simp; done) | (simp; omega)) _))
  have HP2 := hid ((HP1.out.below b2).less qx_le)
  have X2 := hid (X1.out.kept (Kp.of_below b2))
  have HF2 : Hid (∀ W Q2, (∀ k, Q1 k → Q2 k) → P3 B W A (N + 1) Q2 → Kp Q1 w2 W → Fin B N A Q w W) := fun W Q2 hq hp hk => HF.out W Q2 hq hp ((Kp.of_below b2).trans hk)
  clear hw2 b2 HP1 X1 HF l1 r1 o0 o1 o2 o3 o4 o5
  have o2 := (blk_cell X2.out.o 2).trans rfl
  obtain ⟨kk, ee, hb⟩ := HP2.out.get HI.out nn
  obtain ⟨z0, z1, z2⟩ := kk
  have HB := hid hb
  unfold Both pA kA at HB
  simp only at HB
  clear hb HP2
  go_wp2_with fail
  refine HB.out.mono ?_
  rintro e w3 ⟨rfl, k3, s3, hh⟩
  have HH := hid hh
  have K3 := hid k3
  clear hh HB o2
  go_upto_region 22 with (fail)
  refine wp_name ?_
  intro w4 hw4
  have b4 : Below w3.heap.size w3 w4 := by rw [hw4]; exact (by repeat (first | with_reducible assumption | with_reducible exact Below.refl _ _ | with_reducible refine Below.drew ?_ | with_reducible refine below_drewN ?_ _ | with_reducible refine below_alloc ?_ _ | with_reducible refine Below.alloc ?_ (by first | omega | (simp; done) | (simp; omega)) _ | with_reducible refine Below.setCell ?_ (by first | omega | (simp; done) | (simp; omega)) _ | with_reducible refine below_setRow ?_ (by first | omega | (simp; done) | (simp; omega)) _))
  have P4 : w4.heap[w3.heap.size]? = some (.cells #[.int .u64 z0, .int .u64 z1, .int .i64 z2] 33 (0, 0)) := by rw [hw4]; exact at_of (by apply Exists.intro; refine ⟨?_, ?_⟩; (focus ((repeat (first | (with_reducible assumption) | (with_reducible exact alloc_at _ _) | ((with_reducible apply alloc_at'); (simp; done)) | (with_reducible apply alloc_at_lt) | (with_reducible apply heap_drew_at) | (with_reducible apply heap_drewN_at) | (with_reducible apply heap_setCell_same) | ((with_reducible apply heap_set_ne); (first | omega | (dsimp only; omega) | (simp; done) | (simp; omega))) | (with_reducible apply setRow_at) | ((with_reducible apply setRow_ne); (first | omega | (dsimp only; omega) | (simp; done) | (simp; omega))))))); simp)
  have B4 := hid b4
  have o2 := (blk_cell (X2.out.kept k3 |>.kept (Kp.of_below b4)).o 2).trans rfl
  obtain ⟨p, hp⟩ : ∃ p, p = w3.heap.size := ⟨_, rfl⟩
  have hpq : w3.heap.size ≤ p ∧ p < w4.heap.size := ⟨by omega, by rw [hp]; exact lt_of_at P4⟩
  have HPQ := hid hpq
  rw [← hp] at P4 ⊢
  have HP4 := hid P4
  clear hw4 b4 P4 hp hpq k3 X2
  go_wp2_with fail
  refine (HH.out _ B4.out).mono ?_
  rintro e w5 ⟨rfl, k5, s5, p5⟩
  have HP5 := hid ((k5.at HPQ.out.2 (.inr HPQ.out)).trans HP4.out)
  have F5 : Hid (∀ W, Below w5.heap.size w5 W → Fin B N A Q w W) := fun W hW => HF2.out _ _ (fun k h => .inl (.inl h)) ((p5.below hW).up (by omega)) ((K3.out.trans ((Kp.of_below B4.out).trans (k5.lessT qx_le))).trans (Kp.of_below hW))
  clear HH k5 s5 p5 HF2 K3 B4 s3 HPQ HP4 o2
  go_upto_region 23 with (fail)
  refine wp_name ?_
  intro w6 hw6
  have b6 : Below w5.heap.size w5 w6 := by rw [hw6]; exact (by repeat (first | with_reducible assumption | with_reducible exact Below.refl _ _ | with_reducible refine Below.drew ?_ | with_reducible refine below_drewN ?_ _ | with_reducible refine below_alloc ?_ _ | with_reducible refine Below.alloc ?_ (by first | omega | (simp; done) | (simp; omega)) _ | with_reducible refine Below.setCell ?_ (by first | omega | (simp; done) | (simp; omega)) _ | with_reducible refine below_setRow ?_ (by first | omega | (simp; done) | (simp; omega)) _))
  have X6 : w6.heap[w5.heap.size]? = some (.cells #[.int .u64 z0, .int .u64 z1, .int .i64 z2] 36 (0, 0)) := by rw [hw6]; exact at_of (by apply Exists.intro; refine ⟨?_, ?_⟩; (focus ((repeat (first | (with_reducible assumption) | (with_reducible exact alloc_at _ _) | ((with_reducible apply alloc_at'); (simp; done)) | (with_reducible apply alloc_at_lt) | (with_reducible apply heap_drew_at) | (with_reducible apply heap_drewN_at) | (with_reducible apply heap_setCell_same) | ((with_reducible apply heap_set_ne); (first | omega | (dsimp only; omega) | (simp; done) | (simp; omega))) | (with_reducible apply setRow_at) | ((with_reducible apply setRow_ne); (first | omega | (dsimp only; omega) | (simp; done) | (simp; omega))))))); simp)
  have HP6 := hid (below_at b6 (lt_of_at HP5.out) HP5.out)
  have HB6 := hid b6
  have hne : p ≠ w5.heap.size := by have := lt_of_at HP5.out; omega
  obtain ⟨p2, hp2⟩ : ∃ p2, p2 = w5.heap.size := ⟨_, rfl⟩
  rw [← hp2] at X6 hne ⊢
  have HX6 := hid X6
  have HE := eqKr
  clear hw6 b6 X6 hp2 HP5
  go_region_held3 (fun w' => w'.cell? ⟨p, 0, none⟩ = some (.int .u64 z0) ∧ w'.cell? ⟨p, 1, none⟩ = some (.int .u64 z1) ∧ w'.cell? ⟨p, 2, none⟩ = some (.int .i64 z2) ∧ w'.cell? ⟨p2, 0, none⟩ = some (.int .u64 z0) ∧ w'.cell? ⟨p2, 1, none⟩ = some (.int .u64 z1) ∧ w'.cell? ⟨p2, 2, none⟩ = some (.int .i64 z2)) (((try go_split_ands); (try dsimp only); refine keepKK (k := (z0, z1, z2)) (l := (z0, z1, z2)) HP6.out HX6.out ?_; (repeat (first | with_reducible assumption | with_reducible exact Below.refl _ _ | with_reducible refine Below.drew ?_ | with_reducible refine below_drewN ?_ _ | with_reducible refine below_alloc ?_ _ | with_reducible refine Below.alloc ?_ (by first | omega | (simp; done) | (simp; omega)) _ | with_reducible refine Below.setCell ?_ (by first | omega | (simp; done) | (simp; omega)) _ | with_reducible refine below_setRow ?_ (by first | omega | (simp; done) | (simp; omega)) _)))) (first | (go_at_call 13; refine (plain_g _ _ _ _).mono ?_; rintro e w91 ⟨rfl, b91⟩; have D91 : Below w6.heap.size w6 w91 := Below.trans (by repeat (first | with_reducible assumption | with_reducible exact Below.refl _ _ | with_reducible refine Below.drew ?_ | with_reducible refine below_drewN ?_ _ | with_reducible refine below_alloc ?_ _ | with_reducible refine Below.alloc ?_ (by first | omega | (simp; done) | (simp; omega)) _ | with_reducible refine Below.setCell ?_ (by first | omega | (simp; done) | (simp; omega)) _ | with_reducible refine below_setRow ?_ (by first | omega | (simp; done) | (simp; omega)) _)) (b91.mono (Below.size (B := w6.heap.size) (w := w6) (by repeat (first | with_reducible assumption | with_reducible exact Below.refl _ _ | with_reducible refine Below.drew ?_ | with_reducible refine below_drewN ?_ _ | with_reducible refine below_alloc ?_ _ | with_reducible refine Below.alloc ?_ (by first | omega | (simp; done) | (simp; omega)) _ | with_reducible refine Below.setCell ?_ (by first | omega | (simp; done) | (simp; omega)) _ | with_reducible refine below_setRow ?_ (by first | omega | (simp; done) | (simp; omega)) _))))))
  all_goals
    have F := hid (F5.out _ (HB6.out.trans (D91.mono HB6.out.size)))
    clear D91 b91 F5 HP6 HX6
    go_wp2
    go_ret
    exact ⟨rfl, F.out⟩
set_option maxRecDepth 100000 in
set_option maxHeartbeats 8000000 in
theorem step_5 (hP : P3 B w A N Q) (hN : N < 100000) (hh nn : Int) (k : K3) (hk : okW k) : Calls Try.prog 19 #[lA A 0 1 2, lA A 3 4 5, oA 5 hh nn k.1 k.2.1 k.2.2] w fun e w' => e = .returned (.bool true) ∧ Fin B N A Q w w' := by
  obtain ⟨u, i, j0, j1, j2, hi⟩ := rest3 hh
  have HP := hid hP
  have HK := hid hk
  have HI := hid hi
  have hii : (i : Int) < 3 := by omega
  have HN := hid hN
  obtain ⟨k0, k1, k2⟩ := k
  simp only
  unfold lA oA pA
  clear hP hk hN
  go_enter Try.func19, Try.ntmps19
  go_upto_region 1 with (fail)
  refine wp_name ?_
  intro w1 hw1
  have b1 : Below w.heap.size w w1 := by rw [hw1]; exact (by repeat (first | with_reducible assumption | with_reducible exact Below.refl _ _ | with_reducible refine Below.drew ?_ | with_reducible refine below_drewN ?_ _ | with_reducible refine below_alloc ?_ _ | with_reducible refine Below.alloc ?_ (by first | omega | (simp; done) | (simp; omega)) _ | with_reducible refine Below.setCell ?_ (by first | omega | (simp; done) | (simp; omega)) _ | with_reducible refine below_setRow ?_ (by first | omega | (simp; done) | (simp; omega)) _))
  have X1 : Hid (Bx w1 (Qx Q w.heap.size w1.heap.size) A w.heap.size (w.heap.size + 1) (w.heap.size + 1 + 1) 5 hh nn k0 k1 k2) := by
    refine ⟨by rw [hw1]; exact (by (repeat (first | (with_reducible assumption) | (with_reducible exact alloc_at _ _) | ((with_reducible apply alloc_at'); (simp; done)) | (with_reducible apply alloc_at_lt) | (with_reducible apply heap_drew_at) | (with_reducible apply heap_drewN_at) | (with_reducible apply heap_setCell_same) | ((with_reducible apply heap_set_ne); (first | omega | (dsimp only; omega) | (simp; done) | (simp; omega))) | (with_reducible apply setRow_at) | ((with_reducible apply setRow_ne); (first | omega | (dsimp only; omega) | (simp; done) | (simp; omega)))))), by rw [hw1]; exact (by (repeat (first | (with_reducible assumption) | (with_reducible exact alloc_at _ _) | ((with_reducible apply alloc_at'); (simp; done)) | (with_reducible apply alloc_at_lt) | (with_reducible apply heap_drew_at) | (with_reducible apply heap_drewN_at) | (with_reducible apply heap_setCell_same) | ((with_reducible apply heap_set_ne); (first | omega | (dsimp only; omega) | (simp; done) | (simp; omega))) | (with_reducible apply setRow_at) | ((with_reducible apply setRow_ne); (first | omega | (dsimp only; omega) | (simp; done) | (simp; omega)))))), by rw [hw1]; exact at_of (by apply Exists.intro; refine ⟨?_, ?_⟩; (focus ((repeat (first | (with_reducible assumption) | (with_reducible exact alloc_at _ _) | ((with_reducible apply alloc_at'); (simp; done)) | (with_reducible apply alloc_at_lt) | (with_reducible apply heap_drew_at) | (with_reducible apply heap_drewN_at) | (with_reducible apply heap_setCell_same) | ((with_reducible apply heap_set_ne); (first | omega | (dsimp only; omega) | (simp; done) | (simp; omega))) | (with_reducible apply setRow_at) | ((with_reducible apply setRow_ne); (first | omega | (dsimp only; omega) | (simp; done) | (simp; omega))))))); simp), .inr ?_, .inr ?_, .inr ?_⟩ <;> (rw [hw1]; simp; try omega)
  have HB1 := hid b1
  have HP1 := hid (HP.out.below b1)
  obtain ⟨bl, hbl⟩ : ∃ x, x = w.heap.size := ⟨_, rfl⟩
  obtain ⟨bw, hbw⟩ : ∃ x, x = bl + 1 := ⟨_, rfl⟩
  obtain ⟨bo, hbo⟩ : ∃ x, x = bw + 1 := ⟨_, rfl⟩
  obtain ⟨Q1, hQ1⟩ : ∃ x, x = Qx Q w.heap.size w1.heap.size := ⟨_, rfl⟩
  have HQ1 : Hid (∀ k, Q k → Q1 k) := by rw [hQ1]; exact qx_le
  rw [← hQ1] at X1 HP1
  rw [← hbl] at X1
  rw [← hbw, ← hbo] at X1
  rw [← hbl]
  rw [← hbw, ← hbo]
  have HF : Hid (∀ W Q2, (∀ k, Q1 k → Q2 k) → P3 B W A (N + 1) Q2 → Kp Q1 w1 W → Fin B N A Q w W) := fun W Q2 hq hp hk => ⟨hp.less fun k h => hq k (HQ1.out k h), (Kp.of_below HB1.out).trans (hk.lessT HQ1.out)⟩
  clear hw1 b1 hbl hbw hbo hQ1 HP HB1 HQ1
  have l1 : w1.cell? ⟨bl, i, none⟩ = some (.pointer (some ⟨A i, 0, none⟩)) := cell3 X1.out.l hi
  have r1 : w1.cell? ⟨bw, i, none⟩ = some (.pointer (some ⟨A (i + 3), 0, none⟩)) := cell3 X1.out.r hi
  have o0 := (blk_cell X1.out.o 0).trans rfl
  have o1 := (blk_cell X1.out.o 1).trans rfl
  have o2 := (blk_cell X1.out.o 2).trans rfl
  have o3 := (blk_cell X1.out.o 3).trans rfl
  have o4 := (blk_cell X1.out.o 4).trans rfl
  have o5 := (blk_cell X1.out.o 5).trans rfl
  clear hi
  go_upto_region 2 with (fail)
  go_region
  go_upto_region 4 with (fail)
  refine wp_name ?_
  intro w2 hw2
  have b2 : Below w1.heap.size w1 w2 := by rw [hw2]; exact (by repeat (first | with_reducible assumption | with_reducible exact Below.refl _ _ | with_reducible refine Below.drew ?_ | with_reducible refine below_drewN ?_ _ | with_reducible refine below_alloc ?_ _ | with_reducible refine Below.alloc ?_ (by first | omega | (simp; done) | (simp; omega)) _ | with_reducible refine Below.setCell ?_ (by first | omega | (simp; done) | (simp; omega)) _ | with_reducible refine below_setRow ?_ (by first | omega | (simp; done) | (simp; omega)) _))
  have HP2 := hid ((HP1.out.below b2).less qx_le)
  have X2 := hid (X1.out.kept (Kp.of_below b2))
  have HF2 : Hid (∀ W Q2, (∀ k, Q1 k → Q2 k) → P3 B W A (N + 1) Q2 → Kp Q1 w2 W → Fin B N A Q w W) := fun W Q2 hq hp hk => HF.out W Q2 hq hp ((Kp.of_below b2).trans hk)
  clear hw2 b2 HP1 X1 HF l1 r1 o0 o1 o2 o3 o4 o5
  have o2 := (blk_cell X2.out.o 2).trans rfl
  have XD : Bx w2.drew Q1 A bl bw bo 5 hh nn k0 k1 k2 := X2.out.kept (Kp.of_below (by repeat (first | with_reducible assumption | with_reducible exact Below.refl _ _ | with_reducible refine Below.drew ?_ | with_reducible refine below_drewN ?_ _ | with_reducible refine below_alloc ?_ _ | with_reducible refine Below.alloc ?_ (by first | omega | (simp; done) | (simp; omega)) _ | with_reducible refine Below.setCell ?_ (by first | omega | (simp; done) | (simp; omega)) _ | with_reducible refine below_setRow ?_ (by first | omega | (simp; done) | (simp; omega)) _)))
  have HXA := hid X2.out
  have HXB := hid XD
  obtain ⟨ee, hb⟩ := ((HP2.out.below (w' := w2.drew) (by repeat (first | with_reducible assumption | with_reducible exact Below.refl _ _ | with_reducible refine Below.drew ?_ | with_reducible refine below_drewN ?_ _ | with_reducible refine below_alloc ?_ _ | with_reducible refine Below.alloc ?_ (by first | omega | (simp; done) | (simp; omega)) _ | with_reducible refine Below.setCell ?_ (by first | omega | (simp; done) | (simp; omega)) _ | with_reducible refine below_setRow ?_ (by first | omega | (simp; done) | (simp; omega)) _))).less qx_le).delete HI.out nn
  have HB := hid hb
  unfold Both pA at HB
  try unfold kA at HB
  simp only at HB
  have HD : Hid (Kp Q1 w2 w2.drew) := Kp.of_below (by repeat (first | with_reducible assumption | with_reducible exact Below.refl _ _ | with_reducible refine Below.drew ?_ | with_reducible refine below_drewN ?_ _ | with_reducible refine below_alloc ?_ _ | with_reducible refine Below.alloc ?_ (by first | omega | (simp; done) | (simp; omega)) _ | with_reducible refine Below.setCell ?_ (by first | omega | (simp; done) | (simp; omega)) _ | with_reducible refine below_setRow ?_ (by first | omega | (simp; done) | (simp; omega)) _))
  clear hb HP2 X2 XD
  go_upto_region 19 with (fail)
  go_region_held3 (fun w' => w'.cell? ⟨bo, 2, none⟩ = some (.int .i64 nn) ∧ w'.cell? ⟨bo, 3, none⟩ = some (.int .u64 k0) ∧ w'.cell? ⟨bo, 4, none⟩ = some (.int .u64 k1) ∧ w'.cell? ⟨bo, 5, none⟩ = some (.int .i64 k2)) (first | ((try go_split_ands); (try dsimp only); refine Bx.s (w := _) (Q := Q1) (A := A) (bl := bl) (bw := bw) (kd := 5) (hh := hh) ?_; first | assumption | exact HXA.out | exact HXB.out | exact HXC.out | exact HXD.out | exact HXE.out)) (first | (go_at_call 22; refine HB.out.mono ?_; rintro e w3 ⟨rfl, k3, s3, hh3⟩; have HH := hid hh3; have K3 := hid k3; have HXC := hid (HXB.out.kept k3); clear hh3 k3) | (go_at_call 37; refine (HH.out _ (Below.refl _ _)).mono ?_; rintro e w5 ⟨rfl, k5, s5, p5⟩; have HXE := hid (HXC.out.kept (k5.lessT qx_le))))
  all_goals
    have F := hid (HF2.out _ _ qx_le (p5.up (by omega)) (HD.out.trans (K3.out.trans (k5.lessT qx_le))))
    clear k5 s5 p5 HXE HH HF2 HD K3 HXA HXB HXC
    go_wp2
    go_ret
    exact ⟨rfl, F.out⟩
set_option maxRecDepth 100000 in
set_option maxHeartbeats 8000000 in
theorem step_4 (hP : P3 B w A N Q) (hN : N < 100000) (hh nn : Int) (k : K3) (hk : okW k) : Calls Try.prog 19 #[lA A 0 1 2, lA A 3 4 5, oA 4 hh nn k.1 k.2.1 k.2.2] w fun e w' => e = .returned (.bool true) ∧ Fin B N A Q w w' := by
  obtain ⟨u, i, j0, j1, j2, hi⟩ := rest3 hh
  have HP := hid hP
  have HK := hid hk
  have HI := hid hi
  have hii : (i : Int) < 3 := by omega
  have HN := hid hN
  obtain ⟨k0, k1, k2⟩ := k
  simp only
  unfold lA oA pA
  clear hP hk hN
  go_enter Try.func19, Try.ntmps19
  go_upto_region 1 with (fail)
  refine wp_name ?_
  intro w1 hw1
  have b1 : Below w.heap.size w w1 := by rw [hw1]; exact (by repeat (first | with_reducible assumption | with_reducible exact Below.refl _ _ | with_reducible refine Below.drew ?_ | with_reducible refine below_drewN ?_ _ | with_reducible refine below_alloc ?_ _ | with_reducible refine Below.alloc ?_ (by first | omega | (simp; done) | (simp; omega)) _ | with_reducible refine Below.setCell ?_ (by first | omega | (simp; done) | (simp; omega)) _ | with_reducible refine below_setRow ?_ (by first | omega | (simp; done) | (simp; omega)) _))
  have X1 : Hid (Bx w1 (Qx Q w.heap.size w1.heap.size) A w.heap.size (w.heap.size + 1) (w.heap.size + 1 + 1) 4 hh nn k0 k1 k2) := by
    refine ⟨by rw [hw1]; exact (by (repeat (first | (with_reducible assumption) | (with_reducible exact alloc_at _ _) | ((with_reducible apply alloc_at'); (simp; done)) | (with_reducible apply alloc_at_lt) | (with_reducible apply heap_drew_at) | (with_reducible apply heap_drewN_at) | (with_reducible apply heap_setCell_same) | ((with_reducible apply heap_set_ne); (first | omega | (dsimp only; omega) | (simp; done) | (simp; omega))) | (with_reducible apply setRow_at) | ((with_reducible apply setRow_ne); (first | omega | (dsimp only; omega) | (simp; done) | (simp; omega)))))), by rw [hw1]; exact (by (repeat (first | (with_reducible assumption) | (with_reducible exact alloc_at _ _) | ((with_reducible apply alloc_at'); (simp; done)) | (with_reducible apply alloc_at_lt) | (with_reducible apply heap_drew_at) | (with_reducible apply heap_drewN_at) | (with_reducible apply heap_setCell_same) | ((with_reducible apply heap_set_ne); (first | omega | (dsimp only; omega) | (simp; done) | (simp; omega))) | (with_reducible apply setRow_at) | ((with_reducible apply setRow_ne); (first | omega | (dsimp only; omega) | (simp; done) | (simp; omega)))))), by rw [hw1]; exact at_of (by apply Exists.intro; refine ⟨?_, ?_⟩; (focus ((repeat (first | (with_reducible assumption) | (with_reducible exact alloc_at _ _) | ((with_reducible apply alloc_at'); (simp; done)) | (with_reducible apply alloc_at_lt) | (with_reducible apply heap_drew_at) | (with_reducible apply heap_drewN_at) | (with_reducible apply heap_setCell_same) | ((with_reducible apply heap_set_ne); (first | omega | (dsimp only; omega) | (simp; done) | (simp; omega))) | (with_reducible apply setRow_at) | ((with_reducible apply setRow_ne); (first | omega | (dsimp only; omega) | (simp; done) | (simp; omega))))))); simp), .inr ?_, .inr ?_, .inr ?_⟩ <;> (rw [hw1]; simp; try omega)
  have HB1 := hid b1
  have HP1 := hid (HP.out.below b1)
  obtain ⟨bl, hbl⟩ : ∃ x, x = w.heap.size := ⟨_, rfl⟩
  obtain ⟨bw, hbw⟩ : ∃ x, x = bl + 1 := ⟨_, rfl⟩
  obtain ⟨bo, hbo⟩ : ∃ x, x = bw + 1 := ⟨_, rfl⟩
  obtain ⟨Q1, hQ1⟩ : ∃ x, x = Qx Q w.heap.size w1.heap.size := ⟨_, rfl⟩
  have HQ1 : Hid (∀ k, Q k → Q1 k) := by rw [hQ1]; exact qx_le
  rw [← hQ1] at X1 HP1
  rw [← hbl] at X1
  rw [← hbw, ← hbo] at X1
  rw [← hbl]
  rw [← hbw, ← hbo]
  have HF : Hid (∀ W Q2, (∀ k, Q1 k → Q2 k) → P3 B W A (N + 1) Q2 → Kp Q1 w1 W → Fin B N A Q w W) := fun W Q2 hq hp hk => ⟨hp.less fun k h => hq k (HQ1.out k h), (Kp.of_below HB1.out).trans (hk.lessT HQ1.out)⟩
  clear hw1 b1 hbl hbw hbo hQ1 HP HB1 HQ1
  have l1 : w1.cell? ⟨bl, i, none⟩ = some (.pointer (some ⟨A i, 0, none⟩)) := cell3 X1.out.l hi
  have r1 : w1.cell? ⟨bw, i, none⟩ = some (.pointer (some ⟨A (i + 3), 0, none⟩)) := cell3 X1.out.r hi
  have o0 := (blk_cell X1.out.o 0).trans rfl
  have o1 := (blk_cell X1.out.o 1).trans rfl
  have o2 := (blk_cell X1.out.o 2).trans rfl
  have o3 := (blk_cell X1.out.o 3).trans rfl
  have o4 := (blk_cell X1.out.o 4).trans rfl
  have o5 := (blk_cell X1.out.o 5).trans rfl
  clear hi
  go_upto_region 2 with (fail)
  go_region
  go_upto_region 4 with (fail)
  refine wp_name ?_
  intro w2 hw2
  have b2 : Below w1.heap.size w1 w2 := by rw [hw2]; exact (by repeat (first | with_reducible assumption | with_reducible exact Below.refl _ _ | with_reducible refine Below.drew ?_ | with_reducible refine below_drewN ?_ _ | with_reducible refine below_alloc ?_ _ | with_reducible refine Below.alloc ?_ (by first | omega | (simp; done) | (simp; omega)) _ | with_reducible refine Below.setCell ?_ (by first | omega | (simp; done) | (simp; omega)) _ | with_reducible refine below_setRow ?_ (by first | omega | (simp; done) | (simp; omega)) _))
  have HP2 := hid ((HP1.out.below b2).less qx_le)
  have X2 := hid (X1.out.kept (Kp.of_below b2))
  have HF2 : Hid (∀ W Q2, (∀ k, Q1 k → Q2 k) → P3 B W A (N + 1) Q2 → Kp Q1 w2 W → Fin B N A Q w W) := fun W Q2 hq hp hk => HF.out W Q2 hq hp ((Kp.of_below b2).trans hk)
  clear hw2 b2 HP1 X1 HF l1 r1 o0 o1 o2 o3 o4 o5
  have o2 := (blk_cell X2.out.o 2).trans rfl
  have o3 := (blk_cell X2.out.o 3).trans rfl
  have o4 := (blk_cell X2.out.o 4).trans rfl
  have o5 := (blk_cell X2.out.o 5).trans rfl
  have XD : Bx w2.drew Q1 A bl bw bo 4 hh nn k0 k1 k2 := X2.out.kept (Kp.of_below (by repeat (first | with_reducible assumption | with_reducible exact Below.refl _ _ | with_reducible refine Below.drew ?_ | with_reducible refine below_drewN ?_ _ | with_reducible refine below_alloc ?_ _ | with_reducible refine Below.alloc ?_ (by first | omega | (simp; done) | (simp; omega)) _ | with_reducible refine Below.setCell ?_ (by first | omega | (simp; done) | (simp; omega)) _ | with_reducible refine below_setRow ?_ (by first | omega | (simp; done) | (simp; omega)) _)))
  have HXA := hid X2.out
  have HXB := hid XD
  obtain ⟨ee, hb⟩ := ((HP2.out.below (w' := w2.drew) (by repeat (first | with_reducible assumption | with_reducible exact Below.refl _ _ | with_reducible refine Below.drew ?_ | with_reducible refine below_drewN ?_ _ | with_reducible refine below_alloc ?_ _ | with_reducible refine Below.alloc ?_ (by first | omega | (simp; done) | (simp; omega)) _ | with_reducible refine Below.setCell ?_ (by first | omega | (simp; done) | (simp; omega)) _ | with_reducible refine below_setRow ?_ (by first | omega | (simp; done) | (simp; omega)) _))).less qx_le).decrease HI.out nn (k0, k1, k2) HK.out
  have HB := hid hb
  unfold Both pA at HB
  try unfold kA at HB
  simp only at HB
  have HD : Hid (Kp Q1 w2 w2.drew) := Kp.of_below (by repeat (first | with_reducible assumption | with_reducible exact Below.refl _ _ | with_reducible refine Below.drew ?_ | with_reducible refine below_drewN ?_ _ | with_reducible refine below_alloc ?_ _ | with_reducible refine Below.alloc ?_ (by first | omega | (simp; done) | (simp; omega)) _ | with_reducible refine Below.setCell ?_ (by first | omega | (simp; done) | (simp; omega)) _ | with_reducible refine below_setRow ?_ (by first | omega | (simp; done) | (simp; omega)) _))
  clear hb HP2 X2 XD
  go_upto_region 17 with (fail)
  go_region_held3 (fun w' => w'.cell? ⟨bo, 2, none⟩ = some (.int .i64 nn) ∧ w'.cell? ⟨bo, 3, none⟩ = some (.int .u64 k0) ∧ w'.cell? ⟨bo, 4, none⟩ = some (.int .u64 k1) ∧ w'.cell? ⟨bo, 5, none⟩ = some (.int .i64 k2)) (first | ((try go_split_ands); (try dsimp only); refine Bx.s (w := _) (Q := Q1) (A := A) (bl := bl) (bw := bw) (kd := 4) (hh := hh) ?_; first | assumption | exact HXA.out | exact HXB.out | exact HXC.out | exact HXD.out | exact HXE.out)) (first | (go_at_call 17; refine HB.out.mono ?_; rintro e w3 ⟨rfl, k3, s3, hh3⟩; have HH := hid hh3; have K3 := hid k3; have HXC := hid (HXB.out.kept k3); clear hh3 k3) | (go_at_call 13; refine (plain_g _ _ _ _).mono ?_; rintro e w4 ⟨rfl, hb4⟩; have B4 : Hid (Below w3.heap.size w3 w4) := hb4; have HXD := hid (HXC.out.kept (Kp.of_below hb4)); clear hb4) | (go_at_call 36; refine (HH.out _ B4.out).mono ?_; rintro e w5 ⟨rfl, k5, s5, p5⟩; have HXE := hid (HXD.out.kept (k5.lessT qx_le))))
  all_goals
    have F := hid (HF2.out _ _ qx_le (p5.up (by omega)) (HD.out.trans (K3.out.trans ((Kp.of_below B4.out).trans (k5.lessT qx_le)))))
    clear k5 s5 p5 HXE HH B4 HXD HF2 HD K3 HXA HXB HXC
    go_wp2
    go_ret
    exact ⟨rfl, F.out⟩
set_option maxRecDepth 100000 in
set_option maxHeartbeats 8000000 in
theorem step_7 (hP : P3 B w A N Q) (hN : N < 100000) (hh nn : Int) (k : K3) (hk : okW k) : Calls Try.prog 19 #[lA A 0 1 2, lA A 3 4 5, oA 7 hh nn k.1 k.2.1 k.2.2] w fun e w' => e = .returned (.bool true) ∧ Fin B N A Q w w' := by
  obtain ⟨u, i, j0, j1, j2, hi⟩ := rest3 hh
  have HP := hid hP
  have HK := hid hk
  have HI := hid hi
  have hii : (i : Int) < 3 := by omega
  have HN := hid hN
  obtain ⟨k0, k1, k2⟩ := k
  simp only
  unfold lA oA pA
  clear hP hk hN
  go_enter Try.func19, Try.ntmps19
  go_upto_region 1 with (fail)
  refine wp_name ?_
  intro w1 hw1
  have b1 : Below w.heap.size w w1 := by rw [hw1]; exact (by repeat (first | with_reducible assumption | with_reducible exact Below.refl _ _ | with_reducible refine Below.drew ?_ | with_reducible refine below_drewN ?_ _ | with_reducible refine below_alloc ?_ _ | with_reducible refine Below.alloc ?_ (by first | omega | (simp; done) | (simp; omega)) _ | with_reducible refine Below.setCell ?_ (by first | omega | (simp; done) | (simp; omega)) _ | with_reducible refine below_setRow ?_ (by first | omega | (simp; done) | (simp; omega)) _))
  have X1 : Hid (Bx w1 (Qx Q w.heap.size w1.heap.size) A w.heap.size (w.heap.size + 1) (w.heap.size + 1 + 1) 7 hh nn k0 k1 k2) := by
    refine ⟨by rw [hw1]; exact (by (repeat (first | (with_reducible assumption) | (with_reducible exact alloc_at _ _) | ((with_reducible apply alloc_at'); (simp; done)) | (with_reducible apply alloc_at_lt) | (with_reducible apply heap_drew_at) | (with_reducible apply heap_drewN_at) | (with_reducible apply heap_setCell_same) | ((with_reducible apply heap_set_ne); (first | omega | (dsimp only; omega) | (simp; done) | (simp; omega))) | (with_reducible apply setRow_at) | ((with_reducible apply setRow_ne); (first | omega | (dsimp only; omega) | (simp; done) | (simp; omega)))))), by rw [hw1]; exact (by (repeat (first | (with_reducible assumption) | (with_reducible exact alloc_at _ _) | ((with_reducible apply alloc_at'); (simp; done)) | (with_reducible apply alloc_at_lt) | (with_reducible apply heap_drew_at) | (with_reducible apply heap_drewN_at) | (with_reducible apply heap_setCell_same) | ((with_reducible apply heap_set_ne); (first | omega | (dsimp only; omega) | (simp; done) | (simp; omega))) | (with_reducible apply setRow_at) | ((with_reducible apply setRow_ne); (first | omega | (dsimp only; omega) | (simp; done) | (simp; omega)))))), by rw [hw1]; exact at_of (by apply Exists.intro; refine ⟨?_, ?_⟩; (focus ((repeat (first | (with_reducible assumption) | (with_reducible exact alloc_at _ _) | ((with_reducible apply alloc_at'); (simp; done)) | (with_reducible apply alloc_at_lt) | (with_reducible apply heap_drew_at) | (with_reducible apply heap_drewN_at) | (with_reducible apply heap_setCell_same) | ((with_reducible apply heap_set_ne); (first | omega | (dsimp only; omega) | (simp; done) | (simp; omega))) | (with_reducible apply setRow_at) | ((with_reducible apply setRow_ne); (first | omega | (dsimp only; omega) | (simp; done) | (simp; omega))))))); simp), .inr ?_, .inr ?_, .inr ?_⟩ <;> (rw [hw1]; simp; try omega)
  have HB1 := hid b1
  have HP1 := hid (HP.out.below b1)
  obtain ⟨bl, hbl⟩ : ∃ x, x = w.heap.size := ⟨_, rfl⟩
  obtain ⟨bw, hbw⟩ : ∃ x, x = bl + 1 := ⟨_, rfl⟩
  obtain ⟨bo, hbo⟩ : ∃ x, x = bw + 1 := ⟨_, rfl⟩
  obtain ⟨Q1, hQ1⟩ : ∃ x, x = Qx Q w.heap.size w1.heap.size := ⟨_, rfl⟩
  have HQ1 : Hid (∀ k, Q k → Q1 k) := by rw [hQ1]; exact qx_le
  rw [← hQ1] at X1 HP1
  rw [← hbl] at X1
  rw [← hbw, ← hbo] at X1
  rw [← hbl]
  rw [← hbw, ← hbo]
  have HF : Hid (∀ W Q2, (∀ k, Q1 k → Q2 k) → P3 B W A (N + 1) Q2 → Kp Q1 w1 W → Fin B N A Q w W) := fun W Q2 hq hp hk => ⟨hp.less fun k h => hq k (HQ1.out k h), (Kp.of_below HB1.out).trans (hk.lessT HQ1.out)⟩
  clear hw1 b1 hbl hbw hbo hQ1 HP HB1 HQ1
  have l1 : w1.cell? ⟨bl, i, none⟩ = some (.pointer (some ⟨A i, 0, none⟩)) := cell3 X1.out.l hi
  have r1 : w1.cell? ⟨bw, i, none⟩ = some (.pointer (some ⟨A (i + 3), 0, none⟩)) := cell3 X1.out.r hi
  have o0 := (blk_cell X1.out.o 0).trans rfl
  have o1 := (blk_cell X1.out.o 1).trans rfl
  have o2 := (blk_cell X1.out.o 2).trans rfl
  have o3 := (blk_cell X1.out.o 3).trans rfl
  have o4 := (blk_cell X1.out.o 4).trans rfl
  have o5 := (blk_cell X1.out.o 5).trans rfl
  clear hi
  go_upto_region 2 with (fail)
  go_region
  go_upto_region 4 with (fail)
  refine wp_name ?_
  intro w2 hw2
  have b2 : Below w1.heap.size w1 w2 := by rw [hw2]; exact (by repeat (first | with_reducible assumption | with_reducible exact Below.refl _ _ | with_reducible refine Below.drew ?_ | with_reducible refine below_drewN ?_ _ | with_reducible refine below_alloc ?_ _ | with_reducible refine Below.alloc ?_ (by first | omega | (simp; done) | (simp; omega)) _ | with_reducible refine Below.setCell ?_ (by first | omega | (simp; done) | (simp; omega)) _ | with_reducible refine below_setRow ?_ (by first | omega | (simp; done) | (simp; omega)) _))
  have HP2 := hid ((HP1.out.below b2).less qx_le)
  have X2 := hid (X1.out.kept (Kp.of_below b2))
  have HF2 : Hid (∀ W Q2, (∀ k, Q1 k → Q2 k) → P3 B W A (N + 1) Q2 → Kp Q1 w2 W → Fin B N A Q w W) := fun W Q2 hq hp hk => HF.out W Q2 hq hp ((Kp.of_below b2).trans hk)
  clear hw2 b2 HP1 X1 HF l1 r1 o0 o1 o2 o3 o4 o5
  have o2 := (blk_cell X2.out.o 2).trans rfl
  obtain ⟨u', j, m0, m1, m2, hj⟩ := rest3 nn
  have HJ := hid hj
  have hjj : (j : Int) < 3 := by omega
  have l2 : w2.cell? ⟨bl, j, none⟩ = some (.pointer (some ⟨A j, 0, none⟩)) := cell3 X2.out.l hj
  by_cases hij : i = j
  · subst hij
    have F : Hid (∀ W, Below w2.heap.size w2 W → Fin B N A Q w W) := fun W hW => HF2.out W _ qx_le ((HP2.out.below hW).up (by omega)) (Kp.of_below hW)
    clear hj HF2 HP2 X2
    go_wp2_with fail
    refine (meld_self _ _).mono ?_
    rintro e w3 ⟨rfl, hb3⟩
    go_wp2
    go_ret
    exact ⟨rfl, F.out _ hb3⟩
  · have hni : ((i : Int) == (j : Int)) = false := by simp; omega
    obtain ⟨x, ee, hb⟩ := HP2.out.meld HI.out hj hij (by have := HN.out; omega)
    have HB := hid hb
    unfold Both pA at HB
    simp only at HB
    clear hb HP2 hj hij
    go_wp2_with fail
    refine HB.out.mono ?_
    rintro e w3 ⟨rfl, k3, s3, hh⟩
    have HH := hid hh
    have K3 := hid k3
    have r2 : w3.cell? ⟨bw, j, none⟩ = some (.pointer (some ⟨A (j + 3), 0, none⟩)) := cell3 (X2.out.kept k3).r HJ.out
    clear hh k3 HB o2 l2 X2
    go_wp2_with fail
    refine (HH.out _ (Below.refl _ _)).mono ?_
    rintro e w5 ⟨rfl, k5, s5, p5⟩
    have F := hid (HF2.out _ _ qx_le (p5.up (by omega)) (K3.out.trans (k5.lessT qx_le)))
    clear HH k5 s5 p5 HF2 K3 s3 r2
    go_wp2
    go_ret
    exact ⟨rfl, F.out⟩
set_option maxRecDepth 100000 in
set_option maxHeartbeats 8000000 in
theorem step_o (hP : P3 B w A N Q) (hN : N < 100000) (kd hh nn : Int) (k : K3) (hk : okW k) (n1 : ¬ kd = 1) (n2 : ¬ kd = 2) (n3 : ¬ kd = 3) (n4 : ¬ kd = 4) (n5 : ¬ kd = 5) (n6 : ¬ kd = 6) (n7 : ¬ kd = 7) : Calls Try.prog 19 #[lA A 0 1 2, lA A 3 4 5, oA kd hh nn k.1 k.2.1 k.2.2] w fun e w' => e = .returned (.bool true) ∧ Fin B N A Q w w' := by
  obtain ⟨u, i, j0, j1, j2, hi⟩ := rest3 hh
  have HP := hid hP
  have HK := hid hk
  have HI := hid hi
  have hii : (i : Int) < 3 := by omega
  have HN := hid hN
  obtain ⟨k0, k1, k2⟩ := k
  simp only
  unfold lA oA pA
  clear hP hk hN
  go_enter Try.func19, Try.ntmps19
  go_upto_region 1 with (fail)
  refine wp_name ?_
  intro w1 hw1
  have b1 : Below w.heap.size w w1 := by rw [hw1]; exact (by repeat (first | with_reducible assumption | with_reducible exact Below.refl _ _ | with_reducible refine Below.drew ?_ | with_reducible refine below_drewN ?_ _ | with_reducible refine below_alloc ?_ _ | with_reducible refine Below.alloc ?_ (by first | omega | (simp; done) | (simp; omega)) _ | with_reducible refine Below.setCell ?_ (by first | omega | (simp; done) | (simp; omega)) _ | with_reducible refine below_setRow ?_ (by first | omega | (simp; done) | (simp; omega)) _))
  have X1 : Hid (Bx w1 (Qx Q w.heap.size w1.heap.size) A w.heap.size (w.heap.size + 1) (w.heap.size + 1 + 1) kd hh nn k0 k1 k2) := by
    refine ⟨by rw [hw1]; exact (by (repeat (first | (with_reducible assumption) | (with_reducible exact alloc_at _ _) | ((with_reducible apply alloc_at'); (simp; done)) | (with_reducible apply alloc_at_lt) | (with_reducible apply heap_drew_at) | (with_reducible apply heap_drewN_at) | (with_reducible apply heap_setCell_same) | ((with_reducible apply heap_set_ne); (first | omega | (dsimp only; omega) | (simp; done) | (simp; omega))) | (with_reducible apply setRow_at) | ((with_reducible apply setRow_ne); (first | omega | (dsimp only; omega) | (simp; done) | (simp; omega)))))), by rw [hw1]; exact (by (repeat (first | (with_reducible assumption) | (with_reducible exact alloc_at _ _) | ((with_reducible apply alloc_at'); (simp; done)) | (with_reducible apply alloc_at_lt) | (with_reducible apply heap_drew_at) | (with_reducible apply heap_drewN_at) | (with_reducible apply heap_setCell_same) | ((with_reducible apply heap_set_ne); (first | omega | (dsimp only; omega) | (simp; done) | (simp; omega))) | (with_reducible apply setRow_at) | ((with_reducible apply setRow_ne); (first | omega | (dsimp only; omega) | (simp; done) | (simp; omega)))))), by rw [hw1]; exact at_of (by apply Exists.intro; refine ⟨?_, ?_⟩; (focus ((repeat (first | (with_reducible assumption) | (with_reducible exact alloc_at _ _) | ((with_reducible apply alloc_at'); (simp; done)) | (with_reducible apply alloc_at_lt) | (with_reducible apply heap_drew_at) | (with_reducible apply heap_drewN_at) | (with_reducible apply heap_setCell_same) | ((with_reducible apply heap_set_ne); (first | omega | (dsimp only; omega) | (simp; done) | (simp; omega))) | (with_reducible apply setRow_at) | ((with_reducible apply setRow_ne); (first | omega | (dsimp only; omega) | (simp; done) | (simp; omega))))))); simp), .inr ?_, .inr ?_, .inr ?_⟩ <;> (rw [hw1]; simp; try omega)
  have HB1 := hid b1
  have HP1 := hid (HP.out.below b1)
  obtain ⟨bl, hbl⟩ : ∃ x, x = w.heap.size := ⟨_, rfl⟩
  obtain ⟨bw, hbw⟩ : ∃ x, x = bl + 1 := ⟨_, rfl⟩
  obtain ⟨bo, hbo⟩ : ∃ x, x = bw + 1 := ⟨_, rfl⟩
  obtain ⟨Q1, hQ1⟩ : ∃ x, x = Qx Q w.heap.size w1.heap.size := ⟨_, rfl⟩
  have HQ1 : Hid (∀ k, Q k → Q1 k) := by rw [hQ1]; exact qx_le
  rw [← hQ1] at X1 HP1
  rw [← hbl] at X1
  rw [← hbw, ← hbo] at X1
  rw [← hbl]
  rw [← hbw, ← hbo]
  have HF : Hid (∀ W Q2, (∀ k, Q1 k → Q2 k) → P3 B W A (N + 1) Q2 → Kp Q1 w1 W → Fin B N A Q w W) := fun W Q2 hq hp hk => ⟨hp.less fun k h => hq k (HQ1.out k h), (Kp.of_below HB1.out).trans (hk.lessT HQ1.out)⟩
  clear hw1 b1 hbl hbw hbo hQ1 HP HB1 HQ1
  have l1 : w1.cell? ⟨bl, i, none⟩ = some (.pointer (some ⟨A i, 0, none⟩)) := cell3 X1.out.l hi
  have r1 : w1.cell? ⟨bw, i, none⟩ = some (.pointer (some ⟨A (i + 3), 0, none⟩)) := cell3 X1.out.r hi
  have o0 := (blk_cell X1.out.o 0).trans rfl
  have o1 := (blk_cell X1.out.o 1).trans rfl
  have o2 := (blk_cell X1.out.o 2).trans rfl
  have o3 := (blk_cell X1.out.o 3).trans rfl
  have o4 := (blk_cell X1.out.o 4).trans rfl
  have o5 := (blk_cell X1.out.o 5).trans rfl
  clear hi
  go_upto_region 2 with (fail)
  go_region
  go_upto_region 4 with (fail)
  refine wp_name ?_
  intro w2 hw2
  have b2 : Below w1.heap.size w1 w2 := by rw [hw2]; exact (by repeat (first | with_reducible assumption | with_reducible exact Below.refl _ _ | with_reducible refine Below.drew ?_ | with_reducible refine below_drewN ?_ _ | with_reducible refine below_alloc ?_ _ | with_reducible refine Below.alloc ?_ (by first | omega | (simp; done) | (simp; omega)) _ | with_reducible refine Below.setCell ?_ (by first | omega | (simp; done) | (simp; omega)) _ | with_reducible refine below_setRow ?_ (by first | omega | (simp; done) | (simp; omega)) _))
  have HP2 := hid ((HP1.out.below b2).less qx_le)
  have X2 := hid (X1.out.kept (Kp.of_below b2))
  have HF2 : Hid (∀ W Q2, (∀ k, Q1 k → Q2 k) → P3 B W A (N + 1) Q2 → Kp Q1 w2 W → Fin B N A Q w W) := fun W Q2 hq hp hk => HF.out W Q2 hq hp ((Kp.of_below b2).trans hk)
  clear hw2 b2 HP1 X1 HF l1 r1 o0 o1 o2 o3 o4 o5
  have F : Hid (∀ W, Below w2.heap.size w2 W → Fin B N A Q w W) := fun W hW => HF2.out W _ qx_le ((HP2.out.below hW).up (by omega)) (Kp.of_below hW)
  clear HF2 HP2 X2
  go_wp2
  go_ret
  exact ⟨rfl, F.out _ (Below.refl _ _)⟩
end Go.Proofs.Ythdbiablpkeagaa
