/- Contracts of chapter 2's New, of the program and of the reference, and of the program's Cmp. Asked: that the numbers are words. -/
import Derived.Test.YteccpjijlkjneaaRat1
import Derived.Test.YteccpjijlkjneaaFbR
namespace Go.Proofs.Yteccpjijlkjneaa
open Go.RowKit
set_option maxHeartbeats 400000 in
theorem new_any (n d : Int) (w : World) (hn : 0 ≤ n) (hn' : n ≤ 18446744073709551615) (hd : 0 ≤ d) (hd' : d ≤ 18446744073709551615) :
    Calls Try.prog 31 #[.int .u64 n, .int .u64 d] w fun e w' => e = .returned (.tuple #[.agg #[.int .u64 (newR n d).1.1, .int .u64 (newR n d).1.2], .int .i64 (newR n d).2]) ∧ Below w.heap.size w w' := by
  by_cases h0 : d = 0
  · subst h0
    have e1 := newR_zero n
    have E := hid e1
    clear e1
    go_enter Try.func31, Try.ntmps31
    go_wp2
    refine ret_row2 rfl w.heap.size #[.int .u64 0, .int .u64 0] 48 _ rfl Try.underlying48 rfl infoR rfl (by apply Exists.intro; refine ⟨?_, ?_⟩; (focus ((repeat (first | (with_reducible assumption) | (with_reducible exact alloc_at _ _) | ((with_reducible apply alloc_at'); (simp; done)) | (with_reducible apply alloc_at_lt) | (with_reducible apply heap_drew_at) | (with_reducible apply heap_drewN_at) | (with_reducible apply heap_setCell_same) | ((with_reducible apply heap_set_ne); (first | omega | (dsimp only; omega) | (simp; done) | (simp; omega))) | (with_reducible apply setRow_at) | ((with_reducible apply setRow_ne); (first | omega | (dsimp only; omega) | (simp; done) | (simp; omega))))))); simp) ⟨?_, (by repeat (first | with_reducible assumption | with_reducible exact Below.refl _ _ | with_reducible refine Below.drew ?_ | with_reducible refine below_drewN ?_ _ | with_reducible refine below_alloc ?_ _ | with_reducible refine Below.alloc ?_ (by first | omega | (simp; done) | (simp; omega)) _ | with_reducible refine Below.setCell ?_ (by first | omega | (simp; done) | (simp; omega)) _ | with_reducible refine below_setRow ?_ (by first | omega | (simp; done) | (simp; omega)) _))⟩
    rw [E.out]; rfl
  · have hc : ∀ W, Calls Try.prog 45 #[.int .u64 n, .int .u64 d] W fun e w' => e = .returned (.agg #[.int .u64 (n / gc n d), .int .u64 (d / gc n d)]) ∧ Below W.heap.size W w' := fun W => lowest_any n d W hn hn' (by omega) hd'
    have HC := hid hc
    have e1 := newR_pos (n := n) h0
    have E := hid e1
    have hne : (d == 0) = false := by simp; omega
    clear hc e1
    generalize n / gc n d = x at *
    generalize d / gc n d = y at *
    go_enter Try.func31, Try.ntmps31
    go_wp2_with fail
    refine (HC.out _).mono ?_
    rintro e w1 ⟨rfl, hb1⟩
    have hz := below_at hb1 (n := w.heap.size) (by simp) (by (repeat (first | (with_reducible assumption) | (with_reducible exact alloc_at _ _) | ((with_reducible apply alloc_at'); (simp; done)) | (with_reducible apply alloc_at_lt) | (with_reducible apply heap_drew_at) | (with_reducible apply heap_drewN_at) | (with_reducible apply heap_setCell_same) | ((with_reducible apply heap_set_ne); (first | omega | (dsimp only; omega) | (simp; done) | (simp; omega))) | (with_reducible apply setRow_at) | ((with_reducible apply setRow_ne); (first | omega | (dsimp only; omega) | (simp; done) | (simp; omega))))))
    have hB := Below.trans (a := w) (by repeat (first | with_reducible assumption | with_reducible exact Below.refl _ _ | with_reducible refine Below.drew ?_ | with_reducible refine below_drewN ?_ _ | with_reducible refine below_alloc ?_ _ | with_reducible refine Below.alloc ?_ (by first | omega | (simp; done) | (simp; omega)) _ | with_reducible refine Below.setCell ?_ (by first | omega | (simp; done) | (simp; omega)) _ | with_reducible refine below_setRow ?_ (by first | omega | (simp; done) | (simp; omega)) _)) (hb1.mono (by simp))
    clear hb1
    obtain ⟨z0, z1, zf⟩ := two hz
    have HZ := hid hz
    clear hz
    go_wp2
    have hz := HZ.out
    refine ret_row2 rfl w.heap.size #[.int .u64 x, .int .u64 y] 48 _ rfl Try.underlying48 rfl infoR rfl (by apply Exists.intro; refine ⟨?_, ?_⟩; (focus ((repeat (first | (with_reducible assumption) | (with_reducible exact alloc_at _ _) | ((with_reducible apply alloc_at'); (simp; done)) | (with_reducible apply alloc_at_lt) | (with_reducible apply heap_drew_at) | (with_reducible apply heap_drewN_at) | (with_reducible apply heap_setCell_same) | ((with_reducible apply heap_set_ne); (first | omega | (dsimp only; omega) | (simp; done) | (simp; omega))) | (with_reducible apply setRow_at) | ((with_reducible apply setRow_ne); (first | omega | (dsimp only; omega) | (simp; done) | (simp; omega))))))); simp) ⟨?_, (by repeat (first | with_reducible assumption | with_reducible exact Below.refl _ _ | with_reducible refine Below.drew ?_ | with_reducible refine below_drewN ?_ _ | with_reducible refine below_alloc ?_ _ | with_reducible refine Below.alloc ?_ (by first | omega | (simp; done) | (simp; omega)) _ | with_reducible refine Below.setCell ?_ (by first | omega | (simp; done) | (simp; omega)) _ | with_reducible refine below_setRow ?_ (by first | omega | (simp; done) | (simp; omega)) _))⟩
    rw [E.out]; rfl
set_option maxHeartbeats 600000 in
theorem rnew_any (n d : Int) (w : World) (hn : 0 ≤ n) (hn' : n ≤ 18446744073709551615) (hd : 0 ≤ d) (hd' : d ≤ 18446744073709551615) :
    Calls Try.prog 42 #[.int .u64 n, .int .u64 d] w fun e w' => e = .returned (.tuple #[.agg #[.int .u64 (newR n d).1.1, .int .u64 (newR n d).1.2], .int .i64 (newR n d).2]) ∧ Below w.heap.size w w' := by
  by_cases h0 : d = 0
  · subst h0
    have e1 := newR_zero n
    have E := hid e1
    clear e1
    go_enter Try.func42, Try.ntmps42
    go_wp2
    refine ret_row2 rfl w.heap.size #[.int .u64 0, .int .u64 0] 64 _ rfl Try.underlying64 rfl infoR' rfl (by apply Exists.intro; refine ⟨?_, ?_⟩; (focus ((repeat (first | (with_reducible assumption) | (with_reducible exact alloc_at _ _) | ((with_reducible apply alloc_at'); (simp; done)) | (with_reducible apply alloc_at_lt) | (with_reducible apply heap_drew_at) | (with_reducible apply heap_drewN_at) | (with_reducible apply heap_setCell_same) | ((with_reducible apply heap_set_ne); (first | omega | (dsimp only; omega) | (simp; done) | (simp; omega))) | (with_reducible apply setRow_at) | ((with_reducible apply setRow_ne); (first | omega | (dsimp only; omega) | (simp; done) | (simp; omega))))))); simp) ⟨?_, (by repeat (first | with_reducible assumption | with_reducible exact Below.refl _ _ | with_reducible refine Below.drew ?_ | with_reducible refine below_drewN ?_ _ | with_reducible refine below_alloc ?_ _ | with_reducible refine Below.alloc ?_ (by first | omega | (simp; done) | (simp; omega)) _ | with_reducible refine Below.setCell ?_ (by first | omega | (simp; done) | (simp; omega)) _ | with_reducible refine below_setRow ?_ (by first | omega | (simp; done) | (simp; omega)) _))⟩
    rw [E.out]; rfl
  · have e1 := newR_pos (n := n) h0
    have E := hid e1
    have hne : (d == 0) = false := by simp; omega
    have hd0 : 0 < d := by omega
    clear e1
    go_enter Try.func42, Try.ntmps42
    go_wp2
    clear hne
    go_loopw [6, 7] (fun x y wr => ∃ p q : Int, x = .int .u64 p ∧ y = .int .u64 q ∧ 0 ≤ p ∧ p ≤ 18446744073709551615 ∧ 0 ≤ q ∧ q ≤ 18446744073709551615 ∧ Hid (gc n d = gc p q) ∧ wr = w.alloc (.cells #[.int .u64 0, .int .u64 0] 64)) (fun _ y _ => (intOf y).toNat)
    case atStart => exact ⟨n, d, rfl, rfl, hn, hn', hd, hd', rfl, rfl⟩
    case round =>
      obtain ⟨p, q, rfl, rfl, hp, hp', hq, hq', hg, rfl⟩ := hrel
      by_cases hq0 : q = 0
      · subst hq0
        have hp0 : 0 < p := by have := gc_pos (a := n) hd0; rw [hg.out, gc_zero hp] at this; exact this
        have hgp : gc n d = p := by rw [hg.out, gc_zero hp]
        rw [hgp] at E
        have b1 := div_le hn hp0
        have b2 := div_le (a := d) (by omega) hp0
        have hne2 : (p == 0) = false := by simp; omega
        have l1 := b1.1
        have l2 := b1.2
        have l3 := b2.1
        have l4 := b2.2
        clear b1 b2 hgp hg
        go_wp2
        go_region
        go_wp2
        refine ret_row2 rfl w.heap.size #[.int .u64 (n / p), .int .u64 (d / p)] 64 _ rfl Try.underlying64 rfl infoR' rfl (by apply Exists.intro; refine ⟨?_, ?_⟩; (focus ((repeat (first | (with_reducible assumption) | (with_reducible exact alloc_at _ _) | ((with_reducible apply alloc_at'); (simp; done)) | (with_reducible apply alloc_at_lt) | (with_reducible apply heap_drew_at) | (with_reducible apply heap_drewN_at) | (with_reducible apply heap_setCell_same) | ((with_reducible apply heap_set_ne); (first | omega | (dsimp only; omega) | (simp; done) | (simp; omega))) | (with_reducible apply setRow_at) | ((with_reducible apply setRow_ne); (first | omega | (dsimp only; omega) | (simp; done) | (simp; omega))))))); simp) ⟨?_, (by repeat (first | with_reducible assumption | with_reducible exact Below.refl _ _ | with_reducible refine Below.drew ?_ | with_reducible refine below_drewN ?_ _ | with_reducible refine below_alloc ?_ _ | with_reducible refine Below.alloc ?_ (by first | omega | (simp; done) | (simp; omega)) _ | with_reducible refine Below.setCell ?_ (by first | omega | (simp; done) | (simp; omega)) _ | with_reducible refine below_setRow ?_ (by first | omega | (simp; done) | (simp; omega)) _))⟩
        rw [E.out]; rfl
      · have hq1 : 0 < q := by omega
        have hm := Int.emod_nonneg p (by omega : q ≠ 0)
        have hm' := Int.emod_lt_of_pos p hq1
        have hne3 : (q != 0) = true := by simp; omega
        go_wp2
        go_roundw
        case rel => exact ⟨q, p % q, rfl, rfl, hq, hq', hm, by omega, by unfold Hid; rw [hg.out, gc_step hp hq1], by first | trivial | rfl⟩
        case measure => simp [intOf]; omega
end Go.Proofs.Yteccpjijlkjneaa
