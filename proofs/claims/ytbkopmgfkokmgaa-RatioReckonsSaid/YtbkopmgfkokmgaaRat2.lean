/- Contracts of chapter 2's New, of the program and of the reference, and of the program's Cmp. Asked: that the numbers are words. -/
import Derived.Test.YtbkopmgfkokmgaaRat1
namespace Go.Proofs.Ytbkopmgfkokmgaa
open Go.RowKit
theorem retI {a b : Int} (h : a = b) : Ending.returned (.int .i64 a) = .returned (.int .i64 b) := by rw [h]
set_option maxHeartbeats 400000 in
theorem new_any (n d : Int) (w : World) (hn : 0 ≤ n) (hn' : n ≤ 18446744073709551615) (hd : 0 ≤ d) (hd' : d ≤ 18446744073709551615) :
    Calls Try.prog 9 #[.int .u64 n, .int .u64 d] w fun e w' => e = .returned (.tuple #[.agg #[.int .u64 (newR n d).1.1, .int .u64 (newR n d).1.2], .int .i64 (newR n d).2]) ∧ Below w.heap.size w w' := by
  by_cases h0 : d = 0
  · subst h0
    have e1 := newR_zero n
    have E := hid e1
    clear e1
    go_enter Try.func9, Try.ntmps9
    go_wp2
    refine ret_row2 rfl w.heap.size #[.int .u64 0, .int .u64 0] 24 _ rfl Try.underlying24 rfl infoR rfl (by apply Exists.intro; refine ⟨?_, ?_⟩; (focus ((repeat (first | (with_reducible assumption) | (with_reducible exact alloc_at _ _) | ((with_reducible apply alloc_at'); (simp; done)) | (with_reducible apply alloc_at_lt) | (with_reducible apply heap_drew_at) | (with_reducible apply heap_drewN_at) | (with_reducible apply heap_setCell_same) | ((with_reducible apply heap_set_ne); (first | omega | (simp; done) | (simp; omega))))))); simp) ⟨?_, (by repeat (first | with_reducible assumption | with_reducible exact Below.refl _ _ | with_reducible refine Below.drew ?_ | with_reducible refine below_drewN ?_ _ | with_reducible refine below_alloc ?_ _ | with_reducible refine Below.alloc ?_ (by first | omega | (simp; done) | (simp; omega)) _ | with_reducible refine Below.setCell ?_ (by first | omega | (simp; done) | (simp; omega)) _))⟩
    rw [E.out]; rfl
  · have hc : ∀ W, Calls Try.prog 21 #[.int .u64 n, .int .u64 d] W fun e w' => e = .returned (.agg #[.int .u64 (n / gc n d), .int .u64 (d / gc n d)]) ∧ Below W.heap.size W w' := fun W => lowest_any n d W hn hn' (by omega) hd'
    have HC := hid hc
    have e1 := newR_pos (n := n) h0
    have E := hid e1
    have hne : (d == 0) = false := by simp; omega
    clear hc e1
    generalize n / gc n d = x at *
    generalize d / gc n d = y at *
    go_enter Try.func9, Try.ntmps9
    go_wp2_with fail
    refine (HC.out _).mono ?_
    rintro e w1 ⟨rfl, hb1⟩
    have hz := below_at hb1 (n := w.heap.size) (by simp) (by (repeat (first | (with_reducible assumption) | (with_reducible exact alloc_at _ _) | ((with_reducible apply alloc_at'); (simp; done)) | (with_reducible apply alloc_at_lt) | (with_reducible apply heap_drew_at) | (with_reducible apply heap_drewN_at) | (with_reducible apply heap_setCell_same) | ((with_reducible apply heap_set_ne); (first | omega | (simp; done) | (simp; omega))))))
    have hB := Below.trans (a := w) (by repeat (first | with_reducible assumption | with_reducible exact Below.refl _ _ | with_reducible refine Below.drew ?_ | with_reducible refine below_drewN ?_ _ | with_reducible refine below_alloc ?_ _ | with_reducible refine Below.alloc ?_ (by first | omega | (simp; done) | (simp; omega)) _ | with_reducible refine Below.setCell ?_ (by first | omega | (simp; done) | (simp; omega)) _)) (hb1.mono (by simp))
    clear hb1
    obtain ⟨z0, z1, zf⟩ := two hz
    have HZ := hid hz
    clear hz
    go_wp2
    have hz := HZ.out
    refine ret_row2 rfl w.heap.size #[.int .u64 x, .int .u64 y] 24 _ rfl Try.underlying24 rfl infoR rfl (by apply Exists.intro; refine ⟨?_, ?_⟩; (focus ((repeat (first | (with_reducible assumption) | (with_reducible exact alloc_at _ _) | ((with_reducible apply alloc_at'); (simp; done)) | (with_reducible apply alloc_at_lt) | (with_reducible apply heap_drew_at) | (with_reducible apply heap_drewN_at) | (with_reducible apply heap_setCell_same) | ((with_reducible apply heap_set_ne); (first | omega | (simp; done) | (simp; omega))))))); simp) ⟨?_, (by repeat (first | with_reducible assumption | with_reducible exact Below.refl _ _ | with_reducible refine Below.drew ?_ | with_reducible refine below_drewN ?_ _ | with_reducible refine below_alloc ?_ _ | with_reducible refine Below.alloc ?_ (by first | omega | (simp; done) | (simp; omega)) _ | with_reducible refine Below.setCell ?_ (by first | omega | (simp; done) | (simp; omega)) _))⟩
    rw [E.out]; rfl
set_option maxHeartbeats 600000 in
theorem rnew_any (n d : Int) (w : World) (hn : 0 ≤ n) (hn' : n ≤ 18446744073709551615) (hd : 0 ≤ d) (hd' : d ≤ 18446744073709551615) :
    Calls Try.prog 10 #[.int .u64 n, .int .u64 d] w fun e w' => e = .returned (.tuple #[.agg #[.int .u64 (newR n d).1.1, .int .u64 (newR n d).1.2], .int .i64 (newR n d).2]) ∧ Below w.heap.size w w' := by
  by_cases h0 : d = 0
  · subst h0
    have e1 := newR_zero n
    have E := hid e1
    clear e1
    go_enter Try.func10, Try.ntmps10
    go_wp2
    refine ret_row2 rfl w.heap.size #[.int .u64 0, .int .u64 0] 29 _ rfl Try.underlying29 rfl infoR' rfl (by apply Exists.intro; refine ⟨?_, ?_⟩; (focus ((repeat (first | (with_reducible assumption) | (with_reducible exact alloc_at _ _) | ((with_reducible apply alloc_at'); (simp; done)) | (with_reducible apply alloc_at_lt) | (with_reducible apply heap_drew_at) | (with_reducible apply heap_drewN_at) | (with_reducible apply heap_setCell_same) | ((with_reducible apply heap_set_ne); (first | omega | (simp; done) | (simp; omega))))))); simp) ⟨?_, (by repeat (first | with_reducible assumption | with_reducible exact Below.refl _ _ | with_reducible refine Below.drew ?_ | with_reducible refine below_drewN ?_ _ | with_reducible refine below_alloc ?_ _ | with_reducible refine Below.alloc ?_ (by first | omega | (simp; done) | (simp; omega)) _ | with_reducible refine Below.setCell ?_ (by first | omega | (simp; done) | (simp; omega)) _))⟩
    rw [E.out]; rfl
  · have e1 := newR_pos (n := n) h0
    have E := hid e1
    have hne : (d == 0) = false := by simp; omega
    have hd0 : 0 < d := by omega
    clear e1
    go_enter Try.func10, Try.ntmps10
    go_wp2
    clear hne
    go_loopw [6, 7] (fun x y wr => ∃ p q : Int, x = .int .u64 p ∧ y = .int .u64 q ∧ 0 ≤ p ∧ p ≤ 18446744073709551615 ∧ 0 ≤ q ∧ q ≤ 18446744073709551615 ∧ Hid (gc n d = gc p q) ∧ wr = w.alloc (.cells #[.int .u64 0, .int .u64 0] 29)) (fun _ y _ => (intOf y).toNat)
    case atStart => exact ⟨n, d, rfl, rfl, hn, hn', hd, hd', rfl, rfl⟩
    case round =>
      obtain ⟨p, q, rfl, rfl, hp, hp', hq, hq', hg, rfl⟩ := hrel
      by_cases hq0 : q = 0
      · subst hq0
        have hp0 : 0 < p := by have := gc_pos (a := n) hd0; rw [hg.out, gc_zero hp] at this; exact this
        have hgp : gc n d = p := by rw [hg.out, gc_zero hp]
        rw [hgp] at E
        have b1 := div_le hn hp0
        have b2 := div_le (a := d) (by omega) hp0
        have hne2 : (p == 0) = false := by simp; omega
        have l1 := b1.1
        have l2 := b1.2
        have l3 := b2.1
        have l4 := b2.2
        clear b1 b2 hgp hg
        go_wp2
        go_region
        go_wp2
        refine ret_row2 rfl w.heap.size #[.int .u64 (n / p), .int .u64 (d / p)] 29 _ rfl Try.underlying29 rfl infoR' rfl (by apply Exists.intro; refine ⟨?_, ?_⟩; (focus ((repeat (first | (with_reducible assumption) | (with_reducible exact alloc_at _ _) | ((with_reducible apply alloc_at'); (simp; done)) | (with_reducible apply alloc_at_lt) | (with_reducible apply heap_drew_at) | (with_reducible apply heap_drewN_at) | (with_reducible apply heap_setCell_same) | ((with_reducible apply heap_set_ne); (first | omega | (simp; done) | (simp; omega))))))); simp) ⟨?_, (by repeat (first | with_reducible assumption | with_reducible exact Below.refl _ _ | with_reducible refine Below.drew ?_ | with_reducible refine below_drewN ?_ _ | with_reducible refine below_alloc ?_ _ | with_reducible refine Below.alloc ?_ (by first | omega | (simp; done) | (simp; omega)) _ | with_reducible refine Below.setCell ?_ (by first | omega | (simp; done) | (simp; omega)) _))⟩
        rw [E.out]; rfl
      · have hq1 : 0 < q := by omega
        have hm := Int.emod_nonneg p (by omega : q ≠ 0)
        have hm' := Int.emod_lt_of_pos p hq1
        have hne3 : (q != 0) = true := by simp; omega
        go_wp2
        go_roundw
        case rel => exact ⟨q, p % q, rfl, rfl, hq, hq', hm, by omega, by unfold Hid; rw [hg.out, gc_step hp hq1], by first | trivial | rfl⟩
        case measure => simp [intOf]; omega
theorem nanU_any (a : Int) (w : World) : Calls Try.prog 33 #[.int .u64 a] w fun e w' => e = .returned (.bool false) ∧ w = w' := by
  go_enter Try.func33, Try.ntmps33
  go_wp2
  go_ret
  exact ⟨by simp, rfl⟩
theorem cmpU_any (a b : Int) (w : World) : Calls Try.prog 24 #[.int .u64 a, .int .u64 b] w fun e w' => e = .returned (.int .i64 (cmpZ a b)) ∧ w = w' := by
  go_enter Try.func24, Try.ntmps24
  go_wp2_with fail
  refine (nanU_any _ _).mono ?_
  rintro e w1 ⟨rfl, rfl⟩
  go_wp2_with fail
  refine (nanU_any _ _).mono ?_
  rintro e w1 ⟨rfl, rfl⟩
  by_cases h1 : a < b
  · have e1 : cmpZ a b = -1 := by unfold cmpZ; rw [if_pos h1]
    have H1 := hid e1
    clear e1
    go_wp2
    go_ret
    exact ⟨retI H1.out.symm, rfl⟩
  · by_cases h2 : b < a
    · have e1 : cmpZ a b = 1 := by unfold cmpZ; rw [if_neg h1, if_pos h2]
      have H1 := hid e1
      clear e1
      go_wp2
      go_ret
      exact ⟨retI H1.out.symm, rfl⟩
    · have e1 : cmpZ a b = 0 := by unfold cmpZ; rw [if_neg h1, if_neg h2]
      have H1 := hid e1
      clear e1
      go_wp2
      go_ret
      exact ⟨retI H1.out.symm, rfl⟩
set_option maxHeartbeats 400000 in
theorem or2 (g : Nat) (x y : Int) (w : World) (c0 : w.cell? ⟨g, 0, none⟩ = some (.int .i64 x)) (c1 : w.cell? ⟨g, 1, none⟩ = some (.int .i64 y)) :
    Calls Try.prog 23 #[.slice (some ⟨g, 0, none⟩) 2 2] w fun e w' => e = .returned (.int .i64 (if x ≠ 0 then x else y)) ∧ w = w' := by
  by_cases hx : x = 0
  · by_cases hy : y = 0
    · subst hx hy
      go_enter Try.func23, Try.ntmps23
      go_wp2
      refine wp_loop_rounds 3 ?_
      iterate 3 (rw [rounds_succ]; go_wp2)
      go_ret
      exact ⟨rfl, rfl⟩
    · subst hx
      have h1 : (y != 0) = true := by simp; omega
      go_enter Try.func23, Try.ntmps23
      go_wp2
      refine wp_loop_rounds 3 ?_
      iterate 2 (rw [rounds_succ]; go_wp2)
      go_ret
      exact ⟨rfl, rfl⟩
  · have h1 : (x != 0) = true := by simp; omega
    have HX := hid hx
    clear hx
    go_enter Try.func23, Try.ntmps23
    go_wp2
    refine wp_loop_rounds 3 ?_
    rw [rounds_succ]
    go_wp2
    go_ret
    exact ⟨retI (by first | rfl | rw [if_pos HX.out]), rfl⟩
theorem or2' (g : Nat) (x y : Int) (w : World) {t : TypeId} {f : Nat × Nat} (h : w.heap[g]? = some (.cells #[.int .i64 x, .int .i64 y] t f)) :
    Calls Try.prog 23 #[.slice (some ⟨g, 0, none⟩) 2 2] w fun e w' => e = .returned (.int .i64 (if x ≠ 0 then x else y)) ∧ w = w' :=
  or2 g x y w (by rw [blk_cell h]; rfl) (by rw [blk_cell h]; rfl)
theorem mul_any (x y : Int) (w : World) (hx : 0 ≤ x) (hx' : x ≤ 18446744073709551615) (hy : 0 ≤ y) (hy' : y ≤ 18446744073709551615) :
    Calls Try.prog 22 #[.int .u64 x, .int .u64 y] w fun e w' => e = .returned (.tuple #[.int .u64 (x * y / 18446744073709551616), .int .u64 (x * y % 18446744073709551616)]) ∧ w = w' := by
  obtain ⟨a, rfl⟩ := Int.eq_ofNat_of_zero_le hx
  obtain ⟨b, rfl⟩ := Int.eq_ofNat_of_zero_le hy
  refine (Try.bits_Mul64 a b (by omega) (by omega) w).mono ?_
  rintro e w' ⟨rfl, hw⟩
  refine ⟨?_, hw.symm⟩
  rw [Int.natCast_ediv, Int.natCast_emod, Int.natCast_mul]
  rfl
set_option maxHeartbeats 1000000 in
theorem cmpR_any (an ad bn bd : Int) (w : World) (h1 : 0 ≤ an) (h1' : an ≤ 18446744073709551615) (h2 : 0 ≤ ad) (h2' : ad ≤ 18446744073709551615) (h3 : 0 ≤ bn) (h3' : bn ≤ 18446744073709551615) (h4 : 0 ≤ bd) (h4' : bd ≤ 18446744073709551615) :
    Calls Try.prog 11 #[.agg #[.int .u64 an, .int .u64 ad], .agg #[.int .u64 bn, .int .u64 bd]] w fun e w' => e = .returned (.tuple #[.int .i64 (cmpR an ad bn bd).1, .int .i64 (cmpR an ad bn bd).2]) ∧ Below w.heap.size w w' := by
  by_cases z1 : ad = 0
  · have e1 : cmpR an ad bn bd = (0, 4) := by unfold cmpR; rw [if_pos (.inl z1)]
    have E := hid e1
    have b1 : (ad == 0) = true := by simp [z1]
    clear e1 z1
    go_enter Try.func11, Try.ntmps11
    go_wp2
    go_ret2
    exact ⟨by rw [E.out]; rfl, (by repeat (first | with_reducible assumption | with_reducible exact Below.refl _ _ | with_reducible refine Below.drew ?_ | with_reducible refine below_drewN ?_ _ | with_reducible refine below_alloc ?_ _ | with_reducible refine Below.alloc ?_ (by first | omega | (simp; done) | (simp; omega)) _ | with_reducible refine Below.setCell ?_ (by first | omega | (simp; done) | (simp; omega)) _))⟩
  · by_cases z2 : bd = 0
    · have e1 : cmpR an ad bn bd = (0, 4) := by unfold cmpR; rw [if_pos (.inr z2)]
      have E := hid e1
      have b1 : (ad == 0) = false := by simp; omega
      have b2 : (bd == 0) = true := by simp [z2]
      clear e1 z1 z2
      go_enter Try.func11, Try.ntmps11
      go_wp2
      go_ret2
      exact ⟨by rw [E.out]; rfl, (by repeat (first | with_reducible assumption | with_reducible exact Below.refl _ _ | with_reducible refine Below.drew ?_ | with_reducible refine below_drewN ?_ _ | with_reducible refine below_alloc ?_ _ | with_reducible refine Below.alloc ?_ (by first | omega | (simp; done) | (simp; omega)) _ | with_reducible refine Below.setCell ?_ (by first | omega | (simp; done) | (simp; omega)) _))⟩
    · have e1 : cmpR an ad bn bd = (cmpZ (an * bd) (bn * ad), 0) := by unfold cmpR; rw [if_neg (by simp [z1, z2])]
      have e2 := cmp_words (an * bd) (bn * ad) 18446744073709551616 (by omega) (Int.mul_nonneg h1 h4) (Int.mul_nonneg h3 h2)
      have m1 : ∀ W, Calls Try.prog 22 #[.int .u64 an, .int .u64 bd] W fun e w' => e = .returned (.tuple #[.int .u64 (an * bd / 18446744073709551616), .int .u64 (an * bd % 18446744073709551616)]) ∧ W = w' := fun W => mul_any an bd W h1 h1' h4 h4'
      have m2 : ∀ W, Calls Try.prog 22 #[.int .u64 bn, .int .u64 ad] W fun e w' => e = .returned (.tuple #[.int .u64 (bn * ad / 18446744073709551616), .int .u64 (bn * ad % 18446744073709551616)]) ∧ W = w' := fun W => mul_any bn ad W h3 h3' h2 h2'
      have E := hid e1
      have E2 := hid e2
      have M1 := hid m1
      have M2 := hid m2
      have b1 : (ad == 0) = false := by simp; omega
      have b2 : (bd == 0) = false := by simp; omega
      clear e1 e2 m1 m2 z1 z2 h1 h1' h2 h2' h3 h3' h4 h4'
      generalize an * bd / 18446744073709551616 = p1 at *
      generalize an * bd % 18446744073709551616 = p2 at *
      generalize bn * ad / 18446744073709551616 = q1 at *
      generalize bn * ad % 18446744073709551616 = q2 at *
      go_enter Try.func11, Try.ntmps11
      go_wp2_with fail
      refine (M1.out _).mono ?_
      rintro e w1 ⟨rfl, rfl⟩
      go_wp2_with fail
      refine (M2.out _).mono ?_
      rintro e w1 ⟨rfl, rfl⟩
      go_wp2_with fail
      refine (cmpU_any _ _ _).mono ?_
      rintro e w1 ⟨rfl, rfl⟩
      go_wp2_with fail
      refine (cmpU_any _ _ _).mono ?_
      rintro e w1 ⟨rfl, rfl⟩
      go_wp2_with fail
      refine (or2' _ (cmpZ p1 q1) (cmpZ p2 q2) _ (by (repeat (first | (with_reducible assumption) | (with_reducible exact alloc_at _ _) | ((with_reducible apply alloc_at'); (simp; done)) | (with_reducible apply alloc_at_lt) | (with_reducible apply heap_drew_at) | (with_reducible apply heap_drewN_at) | (with_reducible apply heap_setCell_same) | ((with_reducible apply heap_set_ne); (first | omega | (simp; done) | (simp; omega))))))).mono ?_
      rintro e w1 ⟨rfl, rfl⟩
      rw [E2.out]
      go_wp2
      go_ret2
      exact ⟨by rw [E.out]; rfl, (by repeat (first | with_reducible assumption | with_reducible exact Below.refl _ _ | with_reducible refine Below.drew ?_ | with_reducible refine below_drewN ?_ _ | with_reducible refine below_alloc ?_ _ | with_reducible refine Below.alloc ?_ (by first | omega | (simp; done) | (simp; omega)) _ | with_reducible refine Below.setCell ?_ (by first | omega | (simp; done) | (simp; omega)) _))⟩
end Go.Proofs.Ytbkopmgfkokmgaa
