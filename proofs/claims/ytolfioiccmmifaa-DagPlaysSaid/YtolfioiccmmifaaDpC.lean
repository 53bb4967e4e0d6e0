/- DagPlays: one step: a walk for each kind of call. -/
import Derived.Test.YtolfioiccmmifaaDpB
import Derived.Deep.RegionHeld3
namespace Go.Proofs.Ytolfioiccmmifaa
open Go.RowKit
variable {B H H2 : Nat} {Q : Nat → Prop} {w w' : World}
set_option maxHeartbeats 2000000 in
theorem same_ints {A A2 : Option Addr} {n n2 : Nat} {zs : List Int} (c c2 : Nat) (h : SlZ w A n zs) (h2 : SlZ w A2 n2 zs) (hn : n ≤ 100000) : Calls Try.prog 21 #[.slice A n c, .slice A2 n2 c2] w fun e w' => e = .returned (.bool true) ∧ Below w.heap.size w w' := by
  obtain rfl : n = n2 := h.1.trans h2.1.symm
  have HS := hid h
  have HT := hid h2
  have hnb : (n : Int) ≤ 100000 := by omega
  clear h h2 hn
  go_enter Try.func21, Try.ntmps21
  go_wp2_with fail
  go_loopw [5] (fun iv wr => ∃ i : Nat, i ≤ n ∧ iv = .int .i64 i ∧ Hid (Below w.heap.size w wr)) (fun iv _ => n - (intOf iv).toNat)
  case atStart => exact ⟨0, Nat.zero_le _, rfl, hid (Below.refl _ _)⟩
  case round =>
    obtain ⟨i, hi, rfl, HB⟩ := hrel
    by_cases hin : i < n
    · have HK1 : Hid (i + 1 ≤ n) := hin
      have HMS : Hid (n - (i + 1) < n - i) := by unfold Hid; omega
      have hii : (i : Int) < (n : Int) := by omega
      obtain ⟨e1, rfl | ⟨b, off, rfl, hl, hc⟩⟩ := HS.out.below HB.out
      · simp at e1; omega
      · obtain ⟨-, rfl | ⟨b2, off2, rfl, hl2, hc2⟩⟩ := HT.out.below HB.out
        · simp at e1; omega
        · have c0 := hc i (by omega)
          have c1 := hc2 i (by omega)
          obtain ⟨z, hz⟩ : ∃ z, z = zs.getD i 0 := ⟨_, rfl⟩
          rw [← hz] at c0 c1
          have hz1 : (z != z) = false := by simp
          have hz2 : (z == z) = true := by simp
          have HB2 : Hid (Below w.heap.size w wr.drew) := HB.out.drew
          clear hc hc2 e1 hin hi hz
          go_upto_region 6 with (fail)
          go_region
          go_wp2
          go_roundw
          case rel => exact ⟨i + 1, HK1.out, by go_num, HB2⟩
          case measure => have := HMS.out; simp [intOf]; omega
    · have hii : ¬ (i : Int) < (n : Int) := by omega
      clear hi hin
      go_wp2
      go_ret
      exact ⟨rfl, HB.out⟩
/-- What a step leaves. -/
def Fin (B H H2 : Nat) (Q : Nat → Prop) (w w' : World) : Prop := D3 B w' H H2 Q ∧ Kp Q w w'
theorem Fin.below {wr : World} (h : Fin B H H2 Q w wr) (hb : Below wr.heap.size wr w') : Fin B H H2 Q w w' := ⟨(h.1.below hb).less qx_le, h.2.trans (Kp.of_below hb)⟩
abbrev oD (kd id : Int) (A : Option Addr) (n c : Nat) : Value := .agg #[.int .i64 kd, .int .i64 id, .slice A n c]
set_option maxRecDepth 100000 in
set_option maxHeartbeats 8000000 in
theorem step_1 (hP : D3 B w H H2 Q) (id : Int) {A : Option Addr} {n c : Nat} {zs : List Int} (hs : ∀ W, Kp Q w W → SlZ W A n zs) (hn : n ≤ 100000) : Calls Try.prog 18 #[.pointer (some ⟨H, 0, none⟩), .pointer (some ⟨H2, 0, none⟩), oD 1 id A n c] w fun e w' => e = .returned (.bool true) ∧ Fin B H H2 Q w w' := by
  have HP := hid hP
  have HS := hid hs
  have HN := hid hn
  unfold oD
  clear hP hs hn
  go_enter Try.func18, Try.ntmps18
  go_upto_region 1 with (fail)
  refine wp_name ?_
  intro w1 hw1
  have b1 : Below w.heap.size w w1 := by rw [hw1]; exact (by repeat (first | with_reducible assumption | with_reducible exact Below.refl _ _ | with_reducible refine Below.drew ?_ | with_reducible refine below_drewN ?_ _ | with_reducible refine below_alloc ?_ _ | with_reducible refine Below.alloc ?_ (by first | omega | (simp; done) | (simp; omega)) _ | with_reducible refine Below.setCell ?_ (by first | omega | (simp; done) | (simp; omega)) _ | with_reducible refine below_setRow ?_ (by first | omega | (simp; done) | (simp; omega)) _))
  have X1 : Hid (w1.heap[w.heap.size]? = some (.cells #[.int .i64 1, .int .i64 id, .slice A n c] 33 (0, 0))) := by rw [hw1]; exact at_of (by apply Exists.intro; refine ⟨?_, ?_⟩; (focus ((repeat (first | (with_reducible assumption) | (with_reducible exact alloc_at _ _) | ((with_reducible apply alloc_at'); (simp; done)) | (with_reducible apply alloc_at_lt) | (with_reducible apply heap_drew_at) | (with_reducible apply heap_drewN_at) | (with_reducible apply heap_setCell_same) | ((with_reducible apply heap_set_ne); (first | omega | (dsimp only; omega) | (simp; done) | (simp; omega))) | (with_reducible apply setRow_at) | ((with_reducible apply setRow_ne); (first | omega | (dsimp only; omega) | (simp; done) | (simp; omega))))))); simp)
  have HP1 := hid (HP.out.below b1)
  have HQB : Hid (Qx Q w.heap.size w1.heap.size w.heap.size) := .inr ⟨Nat.le_refl _, lt_of_at X1.out⟩
  have HS1 : Hid (∀ W, Kp (Qx Q w.heap.size w1.heap.size) w1 W → Kp Q w W) := fun W hk => (Kp.of_below b1).trans (hk.lessT qx_le)
  obtain ⟨bo, hbo⟩ : ∃ x, x = w.heap.size := ⟨_, rfl⟩
  obtain ⟨Q1, hQ1⟩ : ∃ x, x = Qx Q w.heap.size w1.heap.size := ⟨_, rfl⟩
  have HQ1 : Hid (∀ k, Q k → Q1 k) := by rw [hQ1]; exact qx_le
  rw [← hQ1] at HP1 HQB HS1
  rw [← hbo] at X1 HQB
  rw [← hbo]
  have HF : Hid (∀ W Q2, (∀ k, Q1 k → Q2 k) → D3 B W H H2 Q2 → Kp Q1 w1 W → Fin B H H2 Q w W) := fun W Q2 hq hp hk => ⟨hp.less fun k h => hq k (HQ1.out k h), HS1.out W hk⟩
  have HB := hid (HP1.out.add (c := c) (c2 := c) id (fun W hk => HS.out W (HS1.out W hk)) (fun W hk => HS.out W (HS1.out W hk)) HN.out)
  unfold BothA at HB
  have hbl := lt_of_at X1.out
  have o0 := (blk_cell X1.out 0).trans rfl
  have o1 := (blk_cell X1.out 1).trans rfl
  have o2 := (blk_cell X1.out 2).trans rfl
  clear hw1 b1 hbo hQ1 HP
  clear HP1
  go_wp2_with fail
  refine HB.out.mono ?_
  rintro e w3 ⟨a, z, rfl, k3, s3, hh⟩
  have HH := hid hh
  have X3 : Hid (w3.heap[bo]? = _) := (k3.at hbl HQB.out).trans X1.out
  have K3 := hid k3
  clear hh k3 o0 o1 o2 HB X1 hbl
  have hbl := lt_of_at X3.out
  have o0 := (blk_cell X3.out 0).trans rfl
  have o1 := (blk_cell X3.out 1).trans rfl
  have o2 := (blk_cell X3.out 2).trans rfl
  go_wp2_with fail
  refine (HH.out w3 (Below.refl _ _)).mono ?_
  rintro e w4 ⟨rfl, k4, s4, hD⟩
  have FIN := hid (HF.out w4 _ qx_le hD (K3.out.trans (k4.lessT qx_le)))
  have hz : (z == z) = true := by simp
  clear k4 hD HH K3 HF o0 o1 o2
  cases a
  all_goals
    go_wp2
    go_ret
    exact ⟨by simp, FIN.out⟩
set_option maxRecDepth 100000 in
set_option maxHeartbeats 8000000 in
theorem step_2 (hP : D3 B w H H2 Q) (id : Int) {A : Option Addr} {n c : Nat} : Calls Try.prog 18 #[.pointer (some ⟨H, 0, none⟩), .pointer (some ⟨H2, 0, none⟩), oD 2 id A n c] w fun e w' => e = .returned (.bool true) ∧ Fin B H H2 Q w w' := by
  have HP := hid hP
  unfold oD
  clear hP
  go_enter Try.func18, Try.ntmps18
  go_upto_region 1 with (fail)
  refine wp_name ?_
  intro w1 hw1
  have b1 : Below w.heap.size w w1 := by rw [hw1]; exact (by repeat (first | with_reducible assumption | with_reducible exact Below.refl _ _ | with_reducible refine Below.drew ?_ | with_reducible refine below_drewN ?_ _ | with_reducible refine below_alloc ?_ _ | with_reducible refine Below.alloc ?_ (by first | omega | (simp; done) | (simp; omega)) _ | with_reducible refine Below.setCell ?_ (by first | omega | (simp; done) | (simp; omega)) _ | with_reducible refine below_setRow ?_ (by first | omega | (simp; done) | (simp; omega)) _))
  have X1 : Hid (w1.heap[w.heap.size]? = some (.cells #[.int .i64 2, .int .i64 id, .slice A n c] 33 (0, 0))) := by rw [hw1]; exact at_of (by apply Exists.intro; refine ⟨?_, ?_⟩; (focus ((repeat (first | (with_reducible assumption) | (with_reducible exact alloc_at _ _) | ((with_reducible apply alloc_at'); (simp; done)) | (with_reducible apply alloc_at_lt) | (with_reducible apply heap_drew_at) | (with_reducible apply heap_drewN_at) | (with_reducible apply heap_setCell_same) | ((with_reducible apply heap_set_ne); (first | omega | (dsimp only; omega) | (simp; done) | (simp; omega))) | (with_reducible apply setRow_at) | ((with_reducible apply setRow_ne); (first | omega | (dsimp only; omega) | (simp; done) | (simp; omega))))))); simp)
  have HP1 := hid (HP.out.below b1)
  have HQB : Hid (Qx Q w.heap.size w1.heap.size w.heap.size) := .inr ⟨Nat.le_refl _, lt_of_at X1.out⟩
  have HS1 : Hid (∀ W, Kp (Qx Q w.heap.size w1.heap.size) w1 W → Kp Q w W) := fun W hk => (Kp.of_below b1).trans (hk.lessT qx_le)
  obtain ⟨bo, hbo⟩ : ∃ x, x = w.heap.size := ⟨_, rfl⟩
  obtain ⟨Q1, hQ1⟩ : ∃ x, x = Qx Q w.heap.size w1.heap.size := ⟨_, rfl⟩
  have HQ1 : Hid (∀ k, Q k → Q1 k) := by rw [hQ1]; exact qx_le
  rw [← hQ1] at HP1 HQB HS1
  rw [← hbo] at X1 HQB
  rw [← hbo]
  have HF : Hid (∀ W Q2, (∀ k, Q1 k → Q2 k) → D3 B W H H2 Q2 → Kp Q1 w1 W → Fin B H H2 Q w W) := fun W Q2 hq hp hk => ⟨hp.less fun k h => hq k (HQ1.out k h), HS1.out W hk⟩
  have HB := hid (HP1.out.parents id)
  unfold BothL at HB
  have hbl := lt_of_at X1.out
  have o0 := (blk_cell X1.out 0).trans rfl
  have o1 := (blk_cell X1.out 1).trans rfl
  have o2 := (blk_cell X1.out 2).trans rfl
  clear hw1 b1 hbo hQ1 HP
  clear HP1
  go_wp2_with fail
  refine HB.out.mono ?_
  rintro e w3 ⟨A3, n3, c3, z, l, rfl, hn3, k3, s3, hh⟩
  have HH := hid hh
  have X3 : Hid (w3.heap[bo]? = _) := (k3.at hbl HQB.out).trans X1.out
  have K3 := hid k3
  clear hh k3 o0 o1 o2 HB X1 hbl
  have hbl := lt_of_at X3.out
  have o0 := (blk_cell X3.out 0).trans rfl
  have o1 := (blk_cell X3.out 1).trans rfl
  have o2 := (blk_cell X3.out 2).trans rfl
  go_wp2_with fail
  refine (HH.out w3 (Below.refl _ _)).mono ?_
  rintro e w4 ⟨A4, n4, c4, rfl, s1, s2, k4, s4, hD⟩
  have FIN := hid (HF.out w4 _ qx_le hD (K3.out.trans (k4.lessT qx_le)))
  have HSI := hid (same_ints c3 c4 s1 s2 (by omega))
  have hz : (z == z) = true := by simp
  clear k4 hD HH K3 HF o0 o1 o2 s1 s2 hn3
  go_wp2_with fail
  refine HSI.out.mono ?_
  rintro e w5 ⟨rfl, hb5⟩
  have FIN5 := hid (FIN.out.below hb5)
  clear hb5 FIN
  go_wp2
  go_ret
  exact ⟨by simp, FIN5.out⟩
set_option maxRecDepth 100000 in
set_option maxHeartbeats 8000000 in
theorem step_4 (hP : D3 B w H H2 Q) (id : Int) {A : Option Addr} {n c : Nat} : Calls Try.prog 18 #[.pointer (some ⟨H, 0, none⟩), .pointer (some ⟨H2, 0, none⟩), oD 4 id A n c] w fun e w' => e = .returned (.bool true) ∧ Fin B H H2 Q w w' := by
  have HP := hid hP
  unfold oD
  clear hP
  go_enter Try.func18, Try.ntmps18
  go_upto_region 1 with (fail)
  refine wp_name ?_
  intro w1 hw1
  have b1 : Below w.heap.size w w1 := by rw [hw1]; exact (by repeat (first | with_reducible assumption | with_reducible exact Below.refl _ _ | with_reducible refine Below.drew ?_ | with_reducible refine below_drewN ?_ _ | with_reducible refine below_alloc ?_ _ | with_reducible refine Below.alloc ?_ (by first | omega | (simp; done) | (simp; omega)) _ | with_reducible refine Below.setCell ?_ (by first | omega | (simp; done) | (simp; omega)) _ | with_reducible refine below_setRow ?_ (by first | omega | (simp; done) | (simp; omega)) _))
  have X1 : Hid (w1.heap[w.heap.size]? = some (.cells #[.int .i64 4, .int .i64 id, .slice A n c] 33 (0, 0))) := by rw [hw1]; exact at_of (by apply Exists.intro; refine ⟨?_, ?_⟩; (focus ((repeat (first | (with_reducible assumption) | (with_reducible exact alloc_at _ _) | ((with_reducible apply alloc_at'); (simp; done)) | (with_reducible apply alloc_at_lt) | (with_reducible apply heap_drew_at) | (with_reducible apply heap_drewN_at) | (with_reducible apply heap_setCell_same) | ((with_reducible apply heap_set_ne); (first | omega | (dsimp only; omega) | (simp; done) | (simp; omega))) | (with_reducible apply setRow_at) | ((with_reducible apply setRow_ne); (first | omega | (dsimp only; omega) | (simp; done) | (simp; omega))))))); simp)
  have HP1 := hid (HP.out.below b1)
  have HQB : Hid (Qx Q w.heap.size w1.heap.size w.heap.size) := .inr ⟨Nat.le_refl _, lt_of_at X1.out⟩
  have HS1 : Hid (∀ W, Kp (Qx Q w.heap.size w1.heap.size) w1 W → Kp Q w W) := fun W hk => (Kp.of_below b1).trans (hk.lessT qx_le)
  obtain ⟨bo, hbo⟩ : ∃ x, x = w.heap.size := ⟨_, rfl⟩
  obtain ⟨Q1, hQ1⟩ : ∃ x, x = Qx Q w.heap.size w1.heap.size := ⟨_, rfl⟩
  have HQ1 : Hid (∀ k, Q k → Q1 k) := by rw [hQ1]; exact qx_le
  rw [← hQ1] at HP1 HQB HS1
  rw [← hbo] at X1 HQB
  rw [← hbo]
  have HF : Hid (∀ W Q2, (∀ k, Q1 k → Q2 k) → D3 B W H H2 Q2 → Kp Q1 w1 W → Fin B H H2 Q w W) := fun W Q2 hq hp hk => ⟨hp.less fun k h => hq k (HQ1.out k h), HS1.out W hk⟩
  have HB := hid (HP1.out.done id)
  unfold BothL at HB
  have hbl := lt_of_at X1.out
  have o0 := (blk_cell X1.out 0).trans rfl
  have o1 := (blk_cell X1.out 1).trans rfl
  have o2 := (blk_cell X1.out 2).trans rfl
  clear hw1 b1 hbo hQ1 HP
  clear HP1
  go_wp2_with fail
  refine HB.out.mono ?_
  rintro e w3 ⟨A3, n3, c3, z, l, rfl, hn3, k3, s3, hh⟩
  have HH := hid hh
  have X3 : Hid (w3.heap[bo]? = _) := (k3.at hbl HQB.out).trans X1.out
  have K3 := hid k3
  clear hh k3 o0 o1 o2 HB X1 hbl
  have hbl := lt_of_at X3.out
  have o0 := (blk_cell X3.out 0).trans rfl
  have o1 := (blk_cell X3.out 1).trans rfl
  have o2 := (blk_cell X3.out 2).trans rfl
  go_wp2_with fail
  refine (HH.out w3 (Below.refl _ _)).mono ?_
  rintro e w4 ⟨A4, n4, c4, rfl, s1, s2, k4, s4, hD⟩
  have FIN := hid (HF.out w4 _ qx_le hD (K3.out.trans (k4.lessT qx_le)))
  have HSI := hid (same_ints c3 c4 s1 s2 (by omega))
  have hz : (z == z) = true := by simp
  clear k4 hD HH K3 HF o0 o1 o2 s1 s2 hn3
  go_wp2_with fail
  refine HSI.out.mono ?_
  rintro e w5 ⟨rfl, hb5⟩
  have FIN5 := hid (FIN.out.below hb5)
  clear hb5 FIN
  go_wp2
  go_ret
  exact ⟨by simp, FIN5.out⟩
set_option maxRecDepth 100000 in
set_option maxHeartbeats 8000000 in
theorem step_5 (hP : D3 B w H H2 Q) (id : Int) {A : Option Addr} {n c : Nat} : Calls Try.prog 18 #[.pointer (some ⟨H, 0, none⟩), .pointer (some ⟨H2, 0, none⟩), oD 5 id A n c] w fun e w' => e = .returned (.bool true) ∧ Fin B H H2 Q w w' := by
  have HP := hid hP
  unfold oD
  clear hP
  go_enter Try.func18, Try.ntmps18
  go_upto_region 1 with (fail)
  refine wp_name ?_
  intro w1 hw1
  have b1 : Below w.heap.size w w1 := by rw [hw1]; exact (by repeat (first | with_reducible assumption | with_reducible exact Below.refl _ _ | with_reducible refine Below.drew ?_ | with_reducible refine below_drewN ?_ _ | with_reducible refine below_alloc ?_ _ | with_reducible refine Below.alloc ?_ (by first | omega | (simp; done) | (simp; omega)) _ | with_reducible refine Below.setCell ?_ (by first | omega | (simp; done) | (simp; omega)) _ | with_reducible refine below_setRow ?_ (by first | omega | (simp; done) | (simp; omega)) _))
  have X1 : Hid (w1.heap[w.heap.size]? = some (.cells #[.int .i64 5, .int .i64 id, .slice A n c] 33 (0, 0))) := by rw [hw1]; exact at_of (by apply Exists.intro; refine ⟨?_, ?_⟩; (focus ((repeat (first | (with_reducible assumption) | (with_reducible exact alloc_at _ _) | ((with_reducible apply alloc_at'); (simp; done)) | (with_reducible apply alloc_at_lt) | (with_reducible apply heap_drew_at) | (with_reducible apply heap_drewN_at) | (with_reducible apply heap_setCell_same) | ((with_reducible apply heap_set_ne); (first | omega | (dsimp only; omega) | (simp; done) | (simp; omega))) | (with_reducible apply setRow_at) | ((with_reducible apply setRow_ne); (first | omega | (dsimp only; omega) | (simp; done) | (simp; omega))))))); simp)
  have HP1 := hid (HP.out.below b1)
  have HQB : Hid (Qx Q w.heap.size w1.heap.size w.heap.size) := .inr ⟨Nat.le_refl _, lt_of_at X1.out⟩
  have HS1 : Hid (∀ W, Kp (Qx Q w.heap.size w1.heap.size) w1 W → Kp Q w W) := fun W hk => (Kp.of_below b1).trans (hk.lessT qx_le)
  obtain ⟨bo, hbo⟩ : ∃ x, x = w.heap.size := ⟨_, rfl⟩
  obtain ⟨Q1, hQ1⟩ : ∃ x, x = Qx Q w.heap.size w1.heap.size := ⟨_, rfl⟩
  have HQ1 : Hid (∀ k, Q k → Q1 k) := by rw [hQ1]; exact qx_le
  rw [← hQ1] at HP1 HQB HS1
  rw [← hbo] at X1 HQB
  rw [← hbo]
  have HF : Hid (∀ W Q2, (∀ k, Q1 k → Q2 k) → D3 B W H H2 Q2 → Kp Q1 w1 W → Fin B H H2 Q w W) := fun W Q2 hq hp hk => ⟨hp.less fun k h => hq k (HQ1.out k h), HS1.out W hk⟩
  have HB := hid (HP1.out.fail id)
  unfold BothL at HB
  have hbl := lt_of_at X1.out
  have o0 := (blk_cell X1.out 0).trans rfl
  have o1 := (blk_cell X1.out 1).trans rfl
  have o2 := (blk_cell X1.out 2).trans rfl
  clear hw1 b1 hbo hQ1 HP
  clear HP1
  go_wp2_with fail
  refine HB.out.mono ?_
  rintro e w3 ⟨A3, n3, c3, z, l, rfl, hn3, k3, s3, hh⟩
  have HH := hid hh
  have X3 : Hid (w3.heap[bo]? = _) := (k3.at hbl HQB.out).trans X1.out
  have K3 := hid k3
  clear hh k3 o0 o1 o2 HB X1 hbl
  have hbl := lt_of_at X3.out
  have o0 := (blk_cell X3.out 0).trans rfl
  have o1 := (blk_cell X3.out 1).trans rfl
  have o2 := (blk_cell X3.out 2).trans rfl
  go_wp2_with fail
  refine (HH.out w3 (Below.refl _ _)).mono ?_
  rintro e w4 ⟨A4, n4, c4, rfl, s1, s2, k4, s4, hD⟩
  have FIN := hid (HF.out w4 _ qx_le hD (K3.out.trans (k4.lessT qx_le)))
  have HSI := hid (same_ints c3 c4 s1 s2 (by omega))
  have hz : (z == z) = true := by simp
  clear k4 hD HH K3 HF o0 o1 o2 s1 s2 hn3
  go_wp2_with fail
  refine HSI.out.mono ?_
  rintro e w5 ⟨rfl, hb5⟩
  have FIN5 := hid (FIN.out.below hb5)
  clear hb5 FIN
  go_wp2
  go_ret
  exact ⟨by simp, FIN5.out⟩
set_option maxRecDepth 100000 in
set_option maxHeartbeats 8000000 in
theorem step_3 (hP : D3 B w H H2 Q) (id : Int) {A : Option Addr} {n c : Nat} : Calls Try.prog 18 #[.pointer (some ⟨H, 0, none⟩), .pointer (some ⟨H2, 0, none⟩), oD 3 id A n c] w fun e w' => e = .returned (.bool true) ∧ Fin B H H2 Q w w' := by
  have HP := hid hP
  unfold oD
  clear hP
  go_enter Try.func18, Try.ntmps18
  go_upto_region 1 with (fail)
  refine wp_name ?_
  intro w1 hw1
  have b1 : Below w.heap.size w w1 := by rw [hw1]; exact (by repeat (first | with_reducible assumption | with_reducible exact Below.refl _ _ | with_reducible refine Below.drew ?_ | with_reducible refine below_drewN ?_ _ | with_reducible refine below_alloc ?_ _ | with_reducible refine Below.alloc ?_ (by first | omega | (simp; done) | (simp; omega)) _ | with_reducible refine Below.setCell ?_ (by first | omega | (simp; done) | (simp; omega)) _ | with_reducible refine below_setRow ?_ (by first | omega | (simp; done) | (simp; omega)) _))
  have X1 : Hid (w1.heap[w.heap.size]? = some (.cells #[.int .i64 3, .int .i64 id, .slice A n c] 33 (0, 0))) := by rw [hw1]; exact at_of (by apply Exists.intro; refine ⟨?_, ?_⟩; (focus ((repeat (first | (with_reducible assumption) | (with_reducible exact alloc_at _ _) | ((with_reducible apply alloc_at'); (simp; done)) | (with_reducible apply alloc_at_lt) | (with_reducible apply heap_drew_at) | (with_reducible apply heap_drewN_at) | (with_reducible apply heap_setCell_same) | ((with_reducible apply heap_set_ne); (first | omega | (dsimp only; omega) | (simp; done) | (simp; omega))) | (with_reducible apply setRow_at) | ((with_reducible apply setRow_ne); (first | omega | (dsimp only; omega) | (simp; done) | (simp; omega))))))); simp)
  have HP1 := hid (HP.out.below b1)
  have HQB : Hid (Qx Q w.heap.size w1.heap.size w.heap.size) := .inr ⟨Nat.le_refl _, lt_of_at X1.out⟩
  have HS1 : Hid (∀ W, Kp (Qx Q w.heap.size w1.heap.size) w1 W → Kp Q w W) := fun W hk => (Kp.of_below b1).trans (hk.lessT qx_le)
  obtain ⟨bo, hbo⟩ : ∃ x, x = w.heap.size := ⟨_, rfl⟩
  obtain ⟨Q1, hQ1⟩ : ∃ x, x = Qx Q w.heap.size w1.heap.size := ⟨_, rfl⟩
  have HQ1 : Hid (∀ k, Q k → Q1 k) := by rw [hQ1]; exact qx_le
  rw [← hQ1] at HP1 HQB HS1
  rw [← hbo] at X1 HQB
  rw [← hbo]
  have HF : Hid (∀ W Q2, (∀ k, Q1 k → Q2 k) → D3 B W H H2 Q2 → Kp Q1 w1 W → Fin B H H2 Q w W) := fun W Q2 hq hp hk => ⟨hp.less fun k h => hq k (HQ1.out k h), HS1.out W hk⟩
  obtain ⟨r, hg, hr⟩ := HP1.out.free id
  have HG := hid hg
  have HR := hid hr
  clear hg hr
  have HFI : Hid (∀ W, Below w1.heap.size w1 W → Fin B H H2 Q w W) := fun W hb => HF.out W _ qx_le (HP1.out.below hb) (Kp.of_below hb)
  have hbl := lt_of_at X1.out
  have o0 := (blk_cell X1.out 0).trans rfl
  have o1 := (blk_cell X1.out 1).trans rfl
  have o2 := (blk_cell X1.out 2).trans rfl
  clear hw1 b1 hbo hQ1 HP
  have HCE : Hid (∀ W, Below w1.heap.size w1 W → W.cell? ⟨bo, 1, none⟩ = some (.int .i64 id)) := fun W hb => (hb.cell hbl).trans o1
  have HB1 : Hid (Below w1.heap.size w1 w1) := Below.refl _ _
  clear HP1 HF HS1 HQ1 HQB o2
  go_upto_region 11 with (fail)
  go_region_held3 (fun w' => w'.cell? ⟨bo, 1, none⟩ = some (.int .i64 id)) (((try go_split_ands); (try dsimp only); refine HCE.out _ ?_; first | exact HB3.out | exact HB2.out | exact HB1.out | exact Below.drew (Below.refl _ _))) (first | (go_at_call 16; refine (HG.out _ (Below.drew (Below.refl _ _))).mono ?_; rintro e w2 ⟨rfl, hb2⟩; have HB2 : Hid (Below w1.heap.size w1 w2) := (Below.drew (Below.refl _ _)).trans (hb2.mono (Nat.le_refl _))) | (go_at_call 19; refine (HR.out _ HB2.out).mono ?_; rintro e w3 ⟨rfl, hb3⟩; have HB3 : Hid (Below w1.heap.size w1 w3) := HB2.out.trans (hb3.mono HB2.out.size)))
  all_goals
    have FIN := hid (HFI.out _ HB3.out)
    have hrr : (r == r) = true := by simp
    cases r
  all_goals
    go_wp2
    go_ret
    exact ⟨by simp, FIN.out⟩
set_option maxRecDepth 100000 in
set_option maxHeartbeats 8000000 in
theorem step_o (hP : D3 B w H H2 Q) (id : Int) {A : Option Addr} {n c : Nat} (kd : Int) (h1 : kd ≠ 1) (h2 : kd ≠ 2) (h3 : kd ≠ 3) (h4 : kd ≠ 4) (h5 : kd ≠ 5) : Calls Try.prog 18 #[.pointer (some ⟨H, 0, none⟩), .pointer (some ⟨H2, 0, none⟩), oD kd id A n c] w fun e w' => e = .returned (.bool true) ∧ Fin B H H2 Q w w' := by
  have HP := hid hP
  have e1 : (kd == 1) = false := by simpa using h1
  have e2 : (kd == 2) = false := by simpa using h2
  have e3 : (kd == 3) = false := by simpa using h3
  have e4 : (kd == 4) = false := by simpa using h4
  have e5 : (kd == 5) = false := by simpa using h5
  unfold oD
  clear hP h1 h2 h3 h4 h5
  go_enter Try.func18, Try.ntmps18
  go_upto_region 1 with (fail)
  refine wp_name ?_
  intro w1 hw1
  have b1 : Below w.heap.size w w1 := by rw [hw1]; exact (by repeat (first | with_reducible assumption | with_reducible exact Below.refl _ _ | with_reducible refine Below.drew ?_ | with_reducible refine below_drewN ?_ _ | with_reducible refine below_alloc ?_ _ | with_reducible refine Below.alloc ?_ (by first | omega | (simp; done) | (simp; omega)) _ | with_reducible refine Below.setCell ?_ (by first | omega | (simp; done) | (simp; omega)) _ | with_reducible refine below_setRow ?_ (by first | omega | (simp; done) | (simp; omega)) _))
  have X1 : Hid (w1.heap[w.heap.size]? = some (.cells #[.int .i64 kd, .int .i64 id, .slice A n c] 33 (0, 0))) := by rw [hw1]; exact at_of (by apply Exists.intro; refine ⟨?_, ?_⟩; (focus ((repeat (first | (with_reducible assumption) | (with_reducible exact alloc_at _ _) | ((with_reducible apply alloc_at'); (simp; done)) | (with_reducible apply alloc_at_lt) | (with_reducible apply heap_drew_at) | (with_reducible apply heap_drewN_at) | (with_reducible apply heap_setCell_same) | ((with_reducible apply heap_set_ne); (first | omega | (dsimp only; omega) | (simp; done) | (simp; omega))) | (with_reducible apply setRow_at) | ((with_reducible apply setRow_ne); (first | omega | (dsimp only; omega) | (simp; done) | (simp; omega))))))); simp)
  have HP1 := hid (HP.out.below b1)
  have HQB : Hid (Qx Q w.heap.size w1.heap.size w.heap.size) := .inr ⟨Nat.le_refl _, lt_of_at X1.out⟩
  have HS1 : Hid (∀ W, Kp (Qx Q w.heap.size w1.heap.size) w1 W → Kp Q w W) := fun W hk => (Kp.of_below b1).trans (hk.lessT qx_le)
  obtain ⟨bo, hbo⟩ : ∃ x, x = w.heap.size := ⟨_, rfl⟩
  obtain ⟨Q1, hQ1⟩ : ∃ x, x = Qx Q w.heap.size w1.heap.size := ⟨_, rfl⟩
  have HQ1 : Hid (∀ k, Q k → Q1 k) := by rw [hQ1]; exact qx_le
  rw [← hQ1] at HP1 HQB HS1
  rw [← hbo] at X1 HQB
  rw [← hbo]
  have HF : Hid (∀ W Q2, (∀ k, Q1 k → Q2 k) → D3 B W H H2 Q2 → Kp Q1 w1 W → Fin B H H2 Q w W) := fun W Q2 hq hp hk => ⟨hp.less fun k h => hq k (HQ1.out k h), HS1.out W hk⟩
  have FIN := hid (HF.out w1 _ (fun _ h => h) HP1.out (Kp.refl _))
  have hbl := lt_of_at X1.out
  have o0 := (blk_cell X1.out 0).trans rfl
  have o1 := (blk_cell X1.out 1).trans rfl
  have o2 := (blk_cell X1.out 2).trans rfl
  clear hw1 b1 hbo hQ1 HP
  clear HP1 HF HS1 HQ1 HQB o1 o2
  go_wp2
  go_ret
  exact ⟨by simp, FIN.out⟩
theorem step_any (hP : D3 B w H H2 Q) (kd id : Int) {A : Option Addr} {n c : Nat} {zs : List Int} (hs : ∀ W, Kp Q w W → SlZ W A n zs) (hn : n ≤ 100000) : Calls Try.prog 18 #[.pointer (some ⟨H, 0, none⟩), .pointer (some ⟨H2, 0, none⟩), oD kd id A n c] w fun e w' => e = .returned (.bool true) ∧ Fin B H H2 Q w w' := by
  by_cases h1 : kd = 1
  · subst h1; exact step_1 hP id hs hn
  by_cases h2 : kd = 2
  · subst h2; exact step_2 hP id
  by_cases h3 : kd = 3
  · subst h3; exact step_3 hP id
  by_cases h4 : kd = 4
  · subst h4; exact step_4 hP id
  by_cases h5 : kd = 5
  · subst h5; exact step_5 hP id
  exact step_o hP id kd h1 h2 h3 h4 h5
end Go.Proofs.Ytolfioiccmmifaa
