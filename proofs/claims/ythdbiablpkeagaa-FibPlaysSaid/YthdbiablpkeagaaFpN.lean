/- FibPlays: both are popped to their ends alike. -/
import Derived.Test.YthdbiablpkeagaaFpM
namespace Go.Proofs.Ythdbiablpkeagaa
open Go.RowKit
variable {B N : Nat} {A : Nat → Nat} {Q : Nat → Prop} {w w' : World}
set_option maxRecDepth 100000 in
set_option maxHeartbeats 8000000 in
theorem drained_any {i : Nat} (hP : P3 B w A N Q) (hi : i < 3) : Calls Try.prog 21 #[pA A i, pA A (i + 3)] w fun e w' => e = .returned (.bool true) ∧ P3 B w' A N Q ∧ Kp Q w w' := by
  obtain ⟨c, hc⟩ := hP.of hi
  have HPC := hid hc
  have HI := hid hi
  have HE := eqKr
  clear hP hc hi
  unfold pA
  go_enter Try.func21, Try.ntmps21
  go_wp2_with fail
  go_loopg [] c (fun gk wr => Hid (Pn B wr A N Q i gk) ∧ Hid (Kp Q w wr))
  case atStart => exact ⟨HPC, hid (Kp.of_below (Below.refl _ _))⟩
  case round =>
    clear HPC
    obtain ⟨HP, HK⟩ := hrel
    obtain ⟨x, kk, ee, c', hee, hb⟩ := HP.out.pop HI.out
    obtain ⟨z0, z1, z2⟩ := kk
    have HB := hid hb
    have HEE := hid hee
    unfold Both pA kA at HB
    simp only at HB
    clear hb HP hee
    go_wp2_with fail
    refine HB.out.mono ?_
    rintro e w3 ⟨rfl, k3, s3, hh⟩
    have HH := hid hh
    have K3 := hid k3
    clear hh HB k3
    go_upto_region 2 with (fail)
    refine wp_name ?_
    intro w4 hw4
    have b4 : Below w3.heap.size w3 w4 := by rw [hw4]; exact (by repeat (first | with_reducible assumption | with_reducible exact Below.refl _ _ | with_reducible refine Below.drew ?_ | with_reducible refine below_drewN ?_ _ | with_reducible refine below_alloc ?_ _ | with_reducible refine Below.alloc ?_ (by first | omega | (simp; done) | (simp; omega)) _ | with_reducible refine Below.setCell ?_ (by first | omega | (simp; done) | (simp; omega)) _ | with_reducible refine below_setRow ?_ (by first | omega | (simp; done) | (simp; omega)) _))
    have P4 : w4.heap[w3.heap.size]? = some (.cells #[.int .u64 z0, .int .u64 z1, .int .i64 z2] 33 (0, 0)) := by rw [hw4]; exact at_of (by apply Exists.intro; refine ⟨?_, ?_⟩; (focus ((repeat (first | (with_reducible assumption) | (with_reducible exact alloc_at _ _) | ((with_reducible apply alloc_at'); (simp; done)) | (with_reducible apply alloc_at_lt) | (with_reducible apply heap_drew_at) | (with_reducible apply heap_drewN_at) | (with_reducible apply heap_setCell_same) | ((with_reducible apply heap_set_ne); (first | omega | (dsimp only; omega) | (simp; done) | (simp; omega))) | (with_reducible apply setRow_at) | ((with_reducible apply setRow_ne); (first | omega | (dsimp only; omega) | (simp; done) | (simp; omega))))))); simp)
    have B4 := hid b4
    obtain ⟨p, hp⟩ : ∃ p, p = w3.heap.size := ⟨_, rfl⟩
    have hpq : w3.heap.size ≤ p ∧ p < w4.heap.size := ⟨by omega, by rw [hp]; exact lt_of_at P4⟩
    have HPQ := hid hpq
    rw [← hp] at P4 ⊢
    have HP4 := hid P4
    clear hw4 b4 P4 hp hpq
    go_wp2_with fail
    refine (HH.out _ B4.out).mono ?_
    rintro e w5 ⟨rfl, k5, s5, p5⟩
    have HP5 := hid ((k5.at HPQ.out.2 (.inr HPQ.out)).trans HP4.out)
    have F5 : Hid (∀ W, Below w5.heap.size w5 W → Pn B W A N Q i c' ∧ Kp Q w W) := fun W hW => ⟨(p5.below hW).less (fun k h => .inl (.inl h)), HK.out.trans ((K3.out.trans ((Kp.of_below B4.out).trans (k5.lessT qx_le))).trans (Kp.of_below hW))⟩
    clear HH k5 s5 p5 HK K3 B4 s3 HPQ HP4
    go_upto_region 3 with (fail)
    refine wp_name ?_
    intro w6 hw6
    have b6 : Below w5.heap.size w5 w6 := by rw [hw6]; exact (by repeat (first | with_reducible assumption | with_reducible exact Below.refl _ _ | with_reducible refine Below.drew ?_ | with_reducible refine below_drewN ?_ _ | with_reducible refine below_alloc ?_ _ | with_reducible refine Below.alloc ?_ (by first | omega | (simp; done) | (simp; omega)) _ | with_reducible refine Below.setCell ?_ (by first | omega | (simp; done) | (simp; omega)) _ | with_reducible refine below_setRow ?_ (by first | omega | (simp; done) | (simp; omega)) _))
    have X6 : w6.heap[w5.heap.size]? = some (.cells #[.int .u64 z0, .int .u64 z1, .int .i64 z2] 36 (0, 0)) := by rw [hw6]; exact at_of (by apply Exists.intro; refine ⟨?_, ?_⟩; (focus ((repeat (first | (with_reducible assumption) | (with_reducible exact alloc_at _ _) | ((with_reducible apply alloc_at'); (simp; done)) | (with_reducible apply alloc_at_lt) | (with_reducible apply heap_drew_at) | (with_reducible apply heap_drewN_at) | (with_reducible apply heap_setCell_same) | ((with_reducible apply heap_set_ne); (first | omega | (dsimp only; omega) | (simp; done) | (simp; omega))) | (with_reducible apply setRow_at) | ((with_reducible apply setRow_ne); (first | omega | (dsimp only; omega) | (simp; done) | (simp; omega))))))); simp)
    have HP6 := hid (below_at b6 (lt_of_at HP5.out) HP5.out)
    have HB6 := hid b6
    have hne : p ≠ w5.heap.size := by have := lt_of_at HP5.out; omega
    obtain ⟨p2, hp2⟩ : ∃ p2, p2 = w5.heap.size := ⟨_, rfl⟩
    rw [← hp2] at X6 hne ⊢
    have HX6 := hid X6
    clear hw6 b6 X6 hp2 HP5
    go_region_held3 (fun w' => w'.cell? ⟨p, 0, none⟩ = some (.int .u64 z0) ∧ w'.cell? ⟨p, 1, none⟩ = some (.int .u64 z1) ∧ w'.cell? ⟨p, 2, none⟩ = some (.int .i64 z2) ∧ w'.cell? ⟨p2, 0, none⟩ = some (.int .u64 z0) ∧ w'.cell? ⟨p2, 1, none⟩ = some (.int .u64 z1) ∧ w'.cell? ⟨p2, 2, none⟩ = some (.int .i64 z2)) (((try go_split_ands); (try dsimp only); refine keepKK (k := (z0, z1, z2)) (l := (z0, z1, z2)) HP6.out HX6.out ?_; (repeat (first | with_reducible assumption | with_reducible exact Below.refl _ _ | with_reducible refine Below.drew ?_ | with_reducible refine below_drewN ?_ _ | with_reducible refine below_alloc ?_ _ | with_reducible refine Below.alloc ?_ (by first | omega | (simp; done) | (simp; omega)) _ | with_reducible refine Below.setCell ?_ (by first | omega | (simp; done) | (simp; omega)) _ | with_reducible refine below_setRow ?_ (by first | omega | (simp; done) | (simp; omega)) _)))) (first | (go_at_call 13; refine (plain_g _ _ _ _).mono ?_; rintro e w91 ⟨rfl, b91⟩; have D91 : Below w6.heap.size w6 w91 := Below.trans (by repeat (first | with_reducible assumption | with_reducible exact Below.refl _ _ | with_reducible refine Below.drew ?_ | with_reducible refine below_drewN ?_ _ | with_reducible refine below_alloc ?_ _ | with_reducible refine Below.alloc ?_ (by first | omega | (simp; done) | (simp; omega)) _ | with_reducible refine Below.setCell ?_ (by first | omega | (simp; done) | (simp; omega)) _ | with_reducible refine below_setRow ?_ (by first | omega | (simp; done) | (simp; omega)) _)) (b91.mono (Below.size (B := w6.heap.size) (w := w6) (by repeat (first | with_reducible assumption | with_reducible exact Below.refl _ _ | with_reducible refine Below.drew ?_ | with_reducible refine below_drewN ?_ _ | with_reducible refine below_alloc ?_ _ | with_reducible refine Below.alloc ?_ (by first | omega | (simp; done) | (simp; omega)) _ | with_reducible refine Below.setCell ?_ (by first | omega | (simp; done) | (simp; omega)) _ | with_reducible refine below_setRow ?_ (by first | omega | (simp; done) | (simp; omega)) _))))))
    all_goals
      have F := hid (F5.out _ (HB6.out.trans (D91.mono HB6.out.size)))
      clear D91 b91 F5 HP6 HX6 HB6 hne
      rcases HEE.out with ⟨rfl, hcc⟩ | ⟨rfl, hcc⟩
      · have hgt : c' < gk := by omega
        clear hcc HEE
        go_wp2
        go_roundg c'
        case rel => exact ⟨hid F.out.1, hid F.out.2⟩
        case measure => exact hgt
      · clear HEE hcc
        go_wp2
        go_ret
        exact ⟨rfl, F.out.1.all, F.out.2⟩
end Go.Proofs.Ythdbiablpkeagaa
