/- Contracts of chapter 2's New and of what it calls, of the program and of the reference. Asked: that the two numbers are words. -/
import Derived.Test.YteccpjijlkjneaaProg
import Derived.Test.YteccpjijlkjneaaCls
import Derived.Test.YteccpjijlkjneaaRat
import Derived.BigRegion
import Derived.Test.YteccpjijlkjneaaMul
namespace Go.Proofs.Yteccpjijlkjneaa
open Go.RowKit
theorem ret_u64 {a b : Int} (h : a = b) : Ending.returned (.int .u64 a) = .returned (.int .u64 b) := by rw [h]
set_option maxHeartbeats 400000 in
theorem gcd_any (a b : Int) (w : World) (ha : 0 ≤ a) (ha' : a ≤ 18446744073709551615) (hb : 0 ≤ b) (hb' : b ≤ 18446744073709551615) :
    Calls Try.prog 66 #[.int .u64 a, .int .u64 b] w fun e w' => e = .returned (.int .u64 (gc a b)) ∧ Below w.heap.size w w' := by
  go_enter Try.func66, Try.ntmps66
  go_wp2
  go_loopw [0, 1] (fun x y wr => ∃ p q : Int, x = .int .u64 p ∧ y = .int .u64 q ∧ 0 ≤ p ∧ p ≤ 18446744073709551615 ∧ 0 ≤ q ∧ q ≤ 18446744073709551615 ∧ Hid (gc a b = gc p q) ∧ Below w.heap.size w wr) (fun _ y _ => (intOf y).toNat)
  case atStart => exact ⟨a, b, rfl, rfl, ha, ha', hb, hb', rfl, Below.refl _ _⟩
  case round =>
    obtain ⟨p, q, rfl, rfl, hp, hp', hq, hq', hg, hbel⟩ := hrel
    by_cases h0 : q = 0
    · subst h0
      go_wp2
      go_ret
      exact ⟨ret_u64 (by rw [hg.out, gc_zero hp]), hbel⟩
    · have hq0 : 0 < q := by omega
      have hm := Int.emod_nonneg p (by omega : q ≠ 0)
      have hm' := Int.emod_lt_of_pos p hq0
      have hne : (q != 0) = true := by simp; omega
      go_wp2
      go_quiet (fail)
      go_wp2
      go_roundw
      case rel => exact ⟨q, p % q, rfl, rfl, hq, hq', hm, by omega, by unfold Hid; rw [hg.out, gc_step hp hq0], (by repeat (first | with_reducible assumption | with_reducible exact Below.refl _ _ | with_reducible refine Below.drew ?_ | with_reducible refine below_drewN ?_ _ | with_reducible refine below_alloc ?_ _ | with_reducible refine Below.alloc ?_ (by first | omega | (simp; done) | (simp; omega)) _ | with_reducible refine Below.setCell ?_ (by first | omega | (simp; done) | (simp; omega)) _ | with_reducible refine below_setRow ?_ (by first | omega | (simp; done) | (simp; omega)) _))⟩
      case measure => simp [intOf]; omega
theorem infoR : (Try.prog.info? 48).map (·.size) = some 2 := by kernel_rfl
theorem infoR' : (Try.prog.info? 64).map (·.size) = some 2 := by kernel_rfl
set_option maxHeartbeats 400000 in
theorem lowest_any (n d : Int) (w : World) (hn : 0 ≤ n) (hn' : n ≤ 18446744073709551615) (hd : 0 < d) (hd' : d ≤ 18446744073709551615) :
    Calls Try.prog 45 #[.int .u64 n, .int .u64 d] w fun e w' => e = .returned (.agg #[.int .u64 (n / gc n d), .int .u64 (d / gc n d)]) ∧ Below w.heap.size w w' := by
  have hg := gc_pos (a := n) hd
  have hg' := gc_le (a := n) hd
  have hc : ∀ W, Calls Try.prog 66 #[.int .u64 n, .int .u64 d] W fun e w' => e = .returned (.int .u64 (gc n d)) ∧ Below W.heap.size W w' := fun W => gcd_any n d W hn hn' (by omega) hd'
  have HC := hid hc
  clear hc
  generalize gc n d = g at *
  have b1 := div_le hn hg
  have b2 := div_le (a := d) (by omega) hg
  have hne : (g == 0) = false := by simp; omega
  have l1 := b1.1
  have l2 := b1.2
  have l3 := b2.1
  have l4 := b2.2
  clear b1 b2
  go_enter Try.func45, Try.ntmps45
  go_wp2_with fail
  refine (HC.out _).mono ?_
  rintro e w1 ⟨rfl, hb1⟩
  have hz := below_at hb1 (n := w.heap.size) (by simp) (by (repeat (first | (with_reducible assumption) | (with_reducible exact alloc_at _ _) | ((with_reducible apply alloc_at'); (simp; done)) | (with_reducible apply alloc_at_lt) | (with_reducible apply heap_drew_at) | (with_reducible apply heap_drewN_at) | (with_reducible apply heap_setCell_same) | ((with_reducible apply heap_set_ne); (first | omega | (dsimp only; omega) | (simp; done) | (simp; omega))) | (with_reducible apply setRow_at) | ((with_reducible apply setRow_ne); (first | omega | (dsimp only; omega) | (simp; done) | (simp; omega))))))
  have hB := Below.trans (a := w) (by repeat (first | with_reducible assumption | with_reducible exact Below.refl _ _ | with_reducible refine Below.drew ?_ | with_reducible refine below_drewN ?_ _ | with_reducible refine below_alloc ?_ _ | with_reducible refine Below.alloc ?_ (by first | omega | (simp; done) | (simp; omega)) _ | with_reducible refine Below.setCell ?_ (by first | omega | (simp; done) | (simp; omega)) _ | with_reducible refine below_setRow ?_ (by first | omega | (simp; done) | (simp; omega)) _)) (hb1.mono (by simp))
  clear hb1
  obtain ⟨z0, z1, zf⟩ := two hz
  have HZ := hid hz
  clear hz
  go_wp2
  go_region
  go_wp2
  have hz := HZ.out
  refine ret_row1 rfl w.heap.size #[.int .u64 (n / g), .int .u64 (d / g)] 48 _ rfl Try.underlying48 rfl infoR rfl (by apply Exists.intro; refine ⟨?_, ?_⟩; (focus ((repeat (first | (with_reducible assumption) | (with_reducible exact alloc_at _ _) | ((with_reducible apply alloc_at'); (simp; done)) | (with_reducible apply alloc_at_lt) | (with_reducible apply heap_drew_at) | (with_reducible apply heap_drewN_at) | (with_reducible apply heap_setCell_same) | ((with_reducible apply heap_set_ne); (first | omega | (dsimp only; omega) | (simp; done) | (simp; omega))) | (with_reducible apply setRow_at) | ((with_reducible apply setRow_ne); (first | omega | (dsimp only; omega) | (simp; done) | (simp; omega))))))); simp) ⟨rfl, (by repeat (first | with_reducible assumption | with_reducible exact Below.refl _ _ | with_reducible refine Below.drew ?_ | with_reducible refine below_drewN ?_ _ | with_reducible refine below_alloc ?_ _ | with_reducible refine Below.alloc ?_ (by first | omega | (simp; done) | (simp; omega)) _ | with_reducible refine Below.setCell ?_ (by first | omega | (simp; done) | (simp; omega)) _ | with_reducible refine below_setRow ?_ (by first | omega | (simp; done) | (simp; omega)) _))⟩
end Go.Proofs.Yteccpjijlkjneaa
