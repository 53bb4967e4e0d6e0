/- Contracts of the reference's numbers of 256 bits: up, plus, Of, Compare. Asked: that Of's number is a word. -/
import Derived.Test.YteccpjijlkjneaaProg
import Derived.Test.YteccpjijlkjneaaCls
import Derived.Test.YteccpjijlkjneaaBig3
import Derived.Deep.DeepCutAuto
import Derived.Test.YteccpjijlkjneaaRat
import Derived.BigRegion
import Derived.Deep.RegionHeld3
namespace Go.Proofs.Yteccpjijlkjneaa
open Go.RowKit
/-- A word. -/
def Wrd (n : Int) : Prop := 0 ≤ n ∧ n ≤ 18446744073709551615
/-- Below 2^256. -/
def Big (n : Nat) : Prop := n < 2 ^ 256
/-- Two numbers of 256 bits that are compared, and what they are as integers. -/
def CmpOk (a b : Nat) (x y : Int) : Prop := Big a ∧ Big b ∧ (a : Int) = x ∧ (b : Int) = y
theorem of_int (n : Int) (w : World) (hn : Hid (Wrd n)) :
    Calls Try.prog 64 #[.int .u64 n] w fun e w' => e = .returned (.agg (bigA n.toNat)) ∧ Below w.heap.size w w' := by
  obtain ⟨h1, h2⟩ := hn.out
  have h := of_any n.toNat w (by omega)
  rwa [Int.toNat_of_nonneg h1] at h
theorem times_int (a : Nat) (n : Int) (w : World) (hn : Hid (Wrd n)) :
    Calls Try.prog 65 #[.agg (bigA a), .int .u64 n] w fun e w' => e = .returned (.agg (bigA (a * n.toNat))) ∧ Below w.heap.size w w' := by
  obtain ⟨h1, h2⟩ := hn.out
  have h := times_any a n.toNat w (by omega)
  rwa [Int.toNat_of_nonneg h1] at h
theorem compare_int {a b : Nat} {x y : Int} (h : Hid (CmpOk a b x y)) (w : World) :
    Calls Try.prog 63 #[.agg (bigA a), .agg (bigA b)] w fun e w' => e = .returned (.int .i64 (cmpZ x y)) ∧ Below w.heap.size w w' := by
  obtain ⟨h1, h2, rfl, rfl⟩ := h.out
  exact compare_any a b w h1 h2
theorem pow_big : 340282366920938463463374607431768211456 ≤ 2 ^ 256 := by decide
theorem word_big {a : Int} (h : Wrd a) : Big a.toNat := by
  obtain ⟨h1, h2⟩ := h
  exact Nat.lt_of_lt_of_le (by omega) pow_big
theorem mul_big {a b : Int} (h : Wrd a) (h' : Wrd b) : Big (a.toNat * b.toNat) := by
  obtain ⟨h1, h2⟩ := h
  obtain ⟨h3, h4⟩ := h'
  have h3 : a.toNat * b.toNat ≤ 18446744073709551615 * 18446744073709551615 := Nat.mul_le_mul (by omega) (by omega)
  exact Nat.lt_of_lt_of_le (by omega) pow_big
theorem mul_nat {a b : Int} (h : 0 ≤ a) (h' : 0 ≤ b) : ((a.toNat * b.toNat : Nat) : Int) = a * b := by
  rw [Int.natCast_mul, Int.toNat_of_nonneg h, Int.toNat_of_nonneg h']
theorem wrap_word {a : Int} (h : Wrd a) : IntKind.u64.wrap a = a := by
  obtain ⟨h1, h2⟩ := h
  simp [IntKind.wrap, IntKind.bits, IntKind.signed]
  omega
set_option maxRecDepth 100000 in
set_option maxHeartbeats 2000000 in
theorem rcmp_z1 (an ad bn bd : Int) (w : World) (hz : ad = 0) :
    Calls Try.prog 43 #[.agg #[.int .u64 an, .int .u64 ad], .agg #[.int .u64 bn, .int .u64 bd]] w fun e w' => e = .returned (.tuple #[.int .i64 (cmpR an ad bn bd).1, .int .i64 (cmpR an ad bn bd).2]) ∧ Below w.heap.size w w' := by
  go_enter Try.func43, Try.ntmps43
  have e1 : cmpR an ad bn bd = (0, 4) := by unfold cmpR; rw [if_pos (.inl (by omega))]
  have E := hid e1
  clear e1
  subst hz
  go_wp2
  go_ret2
  exact ⟨by rw [E.out]; rfl, (by repeat (first | with_reducible assumption | with_reducible exact Below.refl _ _ | with_reducible refine Below.drew ?_ | with_reducible refine below_drewN ?_ _ | with_reducible refine below_alloc ?_ _ | with_reducible refine Below.alloc ?_ (by first | omega | (simp; done) | (simp; omega)) _ | with_reducible refine Below.setCell ?_ (by first | omega | (simp; done) | (simp; omega)) _ | with_reducible refine below_setRow ?_ (by first | omega | (simp; done) | (simp; omega)) _))⟩
set_option maxRecDepth 100000 in
set_option maxHeartbeats 2000000 in
theorem rcmp_z2 (an ad bn bd : Int) (w : World) (h0 : ad ≠ 0) (hz : bd = 0) :
    Calls Try.prog 43 #[.agg #[.int .u64 an, .int .u64 ad], .agg #[.int .u64 bn, .int .u64 bd]] w fun e w' => e = .returned (.tuple #[.int .i64 (cmpR an ad bn bd).1, .int .i64 (cmpR an ad bn bd).2]) ∧ Below w.heap.size w w' := by
  go_enter Try.func43, Try.ntmps43
  have e1 : cmpR an ad bn bd = (0, 4) := by unfold cmpR; rw [if_pos (.inr (by omega))]
  have E := hid e1
  have b0 : (ad == 0) = false := by simp; omega
  clear e1 h0
  subst hz
  go_wp2
  go_ret2
  exact ⟨by rw [E.out]; rfl, (by repeat (first | with_reducible assumption | with_reducible exact Below.refl _ _ | with_reducible refine Below.drew ?_ | with_reducible refine below_drewN ?_ _ | with_reducible refine below_alloc ?_ _ | with_reducible refine Below.alloc ?_ (by first | omega | (simp; done) | (simp; omega)) _ | with_reducible refine Below.setCell ?_ (by first | omega | (simp; done) | (simp; omega)) _ | with_reducible refine below_setRow ?_ (by first | omega | (simp; done) | (simp; omega)) _))⟩
set_option maxRecDepth 100000 in
set_option maxHeartbeats 2000000 in
theorem rcmp_small (an ad bn bd : Int) (w : World) (h0 : ad ≠ 0) (h1 : bd ≠ 0) (k1 : 0 ≤ an) (k2 : 0 ≤ ad) (k3 : 0 ≤ bn) (k4 : 0 ≤ bd) (i1 : an < 4294967296) (i2 : ad < 4294967296) (i3 : bn < 4294967296) (i4 : bd < 4294967296) :
    Calls Try.prog 43 #[.agg #[.int .u64 an, .int .u64 ad], .agg #[.int .u64 bn, .int .u64 bd]] w fun e w' => e = .returned (.tuple #[.int .i64 (cmpR an ad bn bd).1, .int .i64 (cmpR an ad bn bd).2]) ∧ Below w.heap.size w w' := by
  go_enter Try.func43, Try.ntmps43
  have e1 : cmpR an ad bn bd = (cmpZ (an * bd) (bn * ad), 0) := by unfold cmpR; rw [if_neg (by omega)]
  have E := hid e1
  have b0 : (ad == 0) = false := by simp; omega
  have b1 : (bd == 0) = false := by simp; omega
  clear e1 h0 h1
  have p0 : 0 ≤ an * bd := Int.mul_nonneg k1 k4
  have q0 : 0 ≤ bn * ad := Int.mul_nonneg k3 k2
  have p1 : an * bd ≤ 4294967295 * 4294967295 := Int.mul_le_mul (by omega) (by omega) k4 (by omega)
  have q1 : bn * ad ≤ 4294967295 * 4294967295 := Int.mul_le_mul (by omega) (by omega) k2 (by omega)
  have P1 : Hid (Wrd (an * bd)) := hid ⟨p0, by omega⟩
  have P2 : Hid (Wrd (bn * ad)) := hid ⟨q0, by omega⟩
  have P3 : Hid (CmpOk (an * bd).toNat (bn * ad).toNat (an * bd) (bn * ad)) := hid ⟨word_big P1.out, word_big P2.out, by omega, by omega⟩
  have w1 : IntKind.u64.wrap (an * bd) = an * bd := wrap_word P1.out
  have w2 : IntKind.u64.wrap (bn * ad) = bn * ad := wrap_word P2.out
  clear p0 p1 q0 q1
  have W1 := hid w1
  have W2 := hid w2
  clear w1 w2
  go_upto_region 4 with fail
  have w1 := W1.out
  have w2 := W2.out
  obtain ⟨wo, hwo⟩ : ∃ wo : World, wo = ((w.alloc (.cells #[.int .u64 an, .int .u64 ad] 64)).alloc (.cells #[.int .u64 bn, .int .u64 bd] 64)) := ⟨_, rfl⟩
  rw [← hwo]
  have hA : wo.heap[w.heap.size]? = some (.cells #[.int .u64 an, .int .u64 ad] 64 (0, 0)) := by rw [hwo]; exact (by (repeat (first | (with_reducible assumption) | (with_reducible exact alloc_at _ _) | ((with_reducible apply alloc_at'); (simp; done)) | (with_reducible apply alloc_at_lt) | (with_reducible apply heap_drew_at) | (with_reducible apply heap_drewN_at) | (with_reducible apply heap_setCell_same) | ((with_reducible apply heap_set_ne); (first | omega | (dsimp only; omega) | (simp; done) | (simp; omega))) | (with_reducible apply setRow_at) | ((with_reducible apply setRow_ne); (first | omega | (dsimp only; omega) | (simp; done) | (simp; omega))))))
  have hC : wo.heap[w.heap.size + 1]? = some (.cells #[.int .u64 bn, .int .u64 bd] 64 (0, 0)) := by rw [hwo]; exact (by (repeat (first | (with_reducible assumption) | (with_reducible exact alloc_at _ _) | ((with_reducible apply alloc_at'); (simp; done)) | (with_reducible apply alloc_at_lt) | (with_reducible apply heap_drew_at) | (with_reducible apply heap_drewN_at) | (with_reducible apply heap_setCell_same) | ((with_reducible apply heap_set_ne); (first | omega | (dsimp only; omega) | (simp; done) | (simp; omega))) | (with_reducible apply setRow_at) | ((with_reducible apply setRow_ne); (first | omega | (dsimp only; omega) | (simp; done) | (simp; omega))))))
  have hB0 : Below w.heap.size w wo := by rw [hwo]; exact (by repeat (first | with_reducible assumption | with_reducible exact Below.refl _ _ | with_reducible refine Below.drew ?_ | with_reducible refine below_drewN ?_ _ | with_reducible refine below_alloc ?_ _ | with_reducible refine Below.alloc ?_ (by first | omega | (simp; done) | (simp; omega)) _ | with_reducible refine Below.setCell ?_ (by first | omega | (simp; done) | (simp; omega)) _ | with_reducible refine below_setRow ?_ (by first | omega | (simp; done) | (simp; omega)) _))
  have hs0 := lt_of_at hA
  have hs1 := lt_of_at hC
  have a0 : wo.cell? ⟨w.heap.size, 0, none⟩ = some (.int .u64 an) := (blk_cell hA 0).trans rfl
  have a1 : wo.cell? ⟨w.heap.size, 1, none⟩ = some (.int .u64 ad) := (blk_cell hA 1).trans rfl
  have a2 : wo.cell? ⟨w.heap.size + 1, 0, none⟩ = some (.int .u64 bn) := (blk_cell hC 0).trans rfl
  have a3 : wo.cell? ⟨w.heap.size + 1, 1, none⟩ = some (.int .u64 bd) := (blk_cell hC 1).trans rfl
  clear hwo hA hC
  go_cut [4, 5] (fun s t wx => s = .int .i64 (cmpZ (an * bd) (bn * ad)) ∧ t = .int .i64 0 ∧ Below w.heap.size w wx)
  case first =>
    go_region_held3 (fun w' => Below wo.heap.size wo w' ∧ (∀ b o, b < wo.heap.size → w'.cell? ⟨b, o, none⟩ = wo.cell? ⟨b, o, none⟩) ∧ ∀ b o, b < wo.heap.size → w'.frozen? ⟨b, o, none⟩ = wo.frozen? ⟨b, o, none⟩) (first | ((try go_split_ands); (try dsimp only); refine same_of ?_; (repeat (first | with_reducible assumption | with_reducible exact Below.refl _ _ | with_reducible refine Below.drew ?_ | with_reducible refine below_drewN ?_ _ | with_reducible refine below_alloc ?_ _ | with_reducible refine Below.alloc ?_ (by first | omega | (simp; done) | (simp; omega)) _ | with_reducible refine Below.setCell ?_ (by first | omega | (simp; done) | (simp; omega)) _ | with_reducible refine below_setRow ?_ (by first | omega | (simp; done) | (simp; omega)) _)); done) | ((try go_split_ands); (try dsimp only); refine same_of ?_; (repeat (first | with_reducible refine below_call ?_ hb4 | with_reducible assumption | with_reducible exact Below.refl _ _ | with_reducible refine Below.drew ?_ | with_reducible refine below_alloc ?_ _ | with_reducible refine Below.setCell ?_ (by (try have qz_hb4 := hb4.size); (try simp only [World.size_alloc, World.size_setCell, heap_drew] at qz_hb4); (try (obtain ⟨qy_hb4, -, -⟩ : Below _ _ w4 ∧ _ ∧ _ := by assumption; have qx_hb4 := qy_hb4.size)); first | omega | (dsimp only; omega)) _)); done)) (first | (go_at_call 64; refine (of_int _ _ (by assumption)).mono ?_; rintro e w4 ⟨rfl, hb4⟩) | (go_at_call 63; refine (compare_int (by assumption) _).mono ?_; rintro e w4 ⟨rfl, hb4⟩))
    all_goals
      obtain ⟨hb5, -, -⟩ : Below wo.heap.size wo _ ∧ _ ∧ _ := by assumption
      go_wp2_with fail
      go_meet
      exact ⟨by first | rfl | simp, by first | rfl | simp, Below.trans hB0 (hb5.mono hB0.size)⟩
  case rest =>
    obtain ⟨rfl, rfl, hB⟩ := hcut
    go_wp2
    go_ret2
    exact ⟨by rw [E.out]; rfl, (by repeat (first | with_reducible assumption | with_reducible exact Below.refl _ _ | with_reducible refine Below.drew ?_ | with_reducible refine below_drewN ?_ _ | with_reducible refine below_alloc ?_ _ | with_reducible refine Below.alloc ?_ (by first | omega | (simp; done) | (simp; omega)) _ | with_reducible refine Below.setCell ?_ (by first | omega | (simp; done) | (simp; omega)) _ | with_reducible refine below_setRow ?_ (by first | omega | (simp; done) | (simp; omega)) _))⟩
set_option maxRecDepth 100000 in
set_option maxHeartbeats 2000000 in
theorem rcmp_great (an ad bn bd : Int) (w : World) (h0 : ad ≠ 0) (h1 : bd ≠ 0) (k1 : 0 ≤ an) (k1' : an ≤ 18446744073709551615) (k2 : 0 ≤ ad) (k2' : ad ≤ 18446744073709551615) (k3 : 0 ≤ bn) (k3' : bn ≤ 18446744073709551615) (k4 : 0 ≤ bd) (k4' : bd ≤ 18446744073709551615) (hl : ¬ (an < 4294967296 ∧ ad < 4294967296 ∧ bn < 4294967296 ∧ bd < 4294967296)) :
    Calls Try.prog 43 #[.agg #[.int .u64 an, .int .u64 ad], .agg #[.int .u64 bn, .int .u64 bd]] w fun e w' => e = .returned (.tuple #[.int .i64 (cmpR an ad bn bd).1, .int .i64 (cmpR an ad bn bd).2]) ∧ Below w.heap.size w w' := by
  go_enter Try.func43, Try.ntmps43
  have e1 : cmpR an ad bn bd = (cmpZ (an * bd) (bn * ad), 0) := by unfold cmpR; rw [if_neg (by omega)]
  have E := hid e1
  have b0 : (ad == 0) = false := by simp; omega
  have b1 : (bd == 0) = false := by simp; omega
  clear e1 h0 h1
  have P1 : Hid (Wrd an) := hid ⟨k1, k1'⟩
  have P2 : Hid (Wrd ad) := hid ⟨k2, k2'⟩
  have P3 : Hid (Wrd bn) := hid ⟨k3, k3'⟩
  have P4 : Hid (Wrd bd) := hid ⟨k4, k4'⟩
  have P5 : Hid (CmpOk (an.toNat * bd.toNat) (bn.toNat * ad.toNat) (an * bd) (bn * ad)) := hid ⟨mul_big P1.out P4.out, mul_big P3.out P2.out, mul_nat k1 k4, mul_nat k3 k2⟩
  go_upto_region 3 with fail
  obtain ⟨wo, hwo⟩ : ∃ wo : World, wo = ((w.alloc (.cells #[.int .u64 an, .int .u64 ad] 64)).alloc (.cells #[.int .u64 bn, .int .u64 bd] 64)) := ⟨_, rfl⟩
  rw [← hwo]
  have hA : wo.heap[w.heap.size]? = some (.cells #[.int .u64 an, .int .u64 ad] 64 (0, 0)) := by rw [hwo]; exact (by (repeat (first | (with_reducible assumption) | (with_reducible exact alloc_at _ _) | ((with_reducible apply alloc_at'); (simp; done)) | (with_reducible apply alloc_at_lt) | (with_reducible apply heap_drew_at) | (with_reducible apply heap_drewN_at) | (with_reducible apply heap_setCell_same) | ((with_reducible apply heap_set_ne); (first | omega | (dsimp only; omega) | (simp; done) | (simp; omega))) | (with_reducible apply setRow_at) | ((with_reducible apply setRow_ne); (first | omega | (dsimp only; omega) | (simp; done) | (simp; omega))))))
  have hC : wo.heap[w.heap.size + 1]? = some (.cells #[.int .u64 bn, .int .u64 bd] 64 (0, 0)) := by rw [hwo]; exact (by (repeat (first | (with_reducible assumption) | (with_reducible exact alloc_at _ _) | ((with_reducible apply alloc_at'); (simp; done)) | (with_reducible apply alloc_at_lt) | (with_reducible apply heap_drew_at) | (with_reducible apply heap_drewN_at) | (with_reducible apply heap_setCell_same) | ((with_reducible apply heap_set_ne); (first | omega | (dsimp only; omega) | (simp; done) | (simp; omega))) | (with_reducible apply setRow_at) | ((with_reducible apply setRow_ne); (first | omega | (dsimp only; omega) | (simp; done) | (simp; omega))))))
  have hB0 : Below w.heap.size w wo := by rw [hwo]; exact (by repeat (first | with_reducible assumption | with_reducible exact Below.refl _ _ | with_reducible refine Below.drew ?_ | with_reducible refine below_drewN ?_ _ | with_reducible refine below_alloc ?_ _ | with_reducible refine Below.alloc ?_ (by first | omega | (simp; done) | (simp; omega)) _ | with_reducible refine Below.setCell ?_ (by first | omega | (simp; done) | (simp; omega)) _ | with_reducible refine below_setRow ?_ (by first | omega | (simp; done) | (simp; omega)) _))
  have hs0 := lt_of_at hA
  have hs1 := lt_of_at hC
  have a0 : wo.cell? ⟨w.heap.size, 0, none⟩ = some (.int .u64 an) := (blk_cell hA 0).trans rfl
  have a1 : wo.cell? ⟨w.heap.size, 1, none⟩ = some (.int .u64 ad) := (blk_cell hA 1).trans rfl
  have a2 : wo.cell? ⟨w.heap.size + 1, 0, none⟩ = some (.int .u64 bn) := (blk_cell hC 0).trans rfl
  have a3 : wo.cell? ⟨w.heap.size + 1, 1, none⟩ = some (.int .u64 bd) := (blk_cell hC 1).trans rfl
  clear hwo hA hC
  go_cut [31] (fun s wx => s = .bool false ∧ wo = wx)
  case first =>
    go_wp2
    all_goals (go_meet; exact ⟨by first | rfl | (exfalso; omega) | (simp; omega), by first | rfl | trivial⟩)
  case rest =>
    obtain ⟨rfl, rfl⟩ := hcut
    clear hl
    go_upto_region 5 with fail
    go_cut [4, 5] (fun s t wx => s = .int .i64 (cmpZ (an * bd) (bn * ad)) ∧ t = .int .i64 0 ∧ Below w.heap.size w wx)
    case first =>
      go_region_held3 (fun w' => Below wo.heap.size wo w' ∧ (∀ b o, b < wo.heap.size → w'.cell? ⟨b, o, none⟩ = wo.cell? ⟨b, o, none⟩) ∧ ∀ b o, b < wo.heap.size → w'.frozen? ⟨b, o, none⟩ = wo.frozen? ⟨b, o, none⟩) (first | ((try go_split_ands); (try dsimp only); refine same_of ?_; (repeat (first | with_reducible assumption | with_reducible exact Below.refl _ _ | with_reducible refine Below.drew ?_ | with_reducible refine below_drewN ?_ _ | with_reducible refine below_alloc ?_ _ | with_reducible refine Below.alloc ?_ (by first | omega | (simp; done) | (simp; omega)) _ | with_reducible refine Below.setCell ?_ (by first | omega | (simp; done) | (simp; omega)) _ | with_reducible refine below_setRow ?_ (by first | omega | (simp; done) | (simp; omega)) _)); done) | ((try go_split_ands); (try dsimp only); refine same_of ?_; (repeat (first | with_reducible refine below_call ?_ hb4 | with_reducible assumption | with_reducible exact Below.refl _ _ | with_reducible refine Below.drew ?_ | with_reducible refine below_alloc ?_ _ | with_reducible refine Below.setCell ?_ (by (try have qz_hb4 := hb4.size); (try simp only [World.size_alloc, World.size_setCell, heap_drew] at qz_hb4); (try (obtain ⟨qy_hb4, -, -⟩ : Below _ _ w4 ∧ _ ∧ _ := by assumption; have qx_hb4 := qy_hb4.size)); first | omega | (dsimp only; omega)) _)); done)) (first | (go_at_call 64; refine (of_int _ _ (by assumption)).mono ?_; rintro e w4 ⟨rfl, hb4⟩) | (go_at_call 65; refine (times_int _ _ _ (by assumption)).mono ?_; rintro e w4 ⟨rfl, hb4⟩) | (go_at_call 63; refine (compare_int (by assumption) _).mono ?_; rintro e w4 ⟨rfl, hb4⟩))
      all_goals
        obtain ⟨hb5, -, -⟩ : Below wo.heap.size wo _ ∧ _ ∧ _ := by assumption
        go_wp2_with fail
        go_meet
        exact ⟨by first | rfl | simp, by first | rfl | simp, Below.trans hB0 (hb5.mono hB0.size)⟩
    case rest =>
      obtain ⟨rfl, rfl, hB⟩ := hcut
      go_wp2
      go_ret2
      exact ⟨by rw [E.out]; rfl, (by repeat (first | with_reducible assumption | with_reducible exact Below.refl _ _ | with_reducible refine Below.drew ?_ | with_reducible refine below_drewN ?_ _ | with_reducible refine below_alloc ?_ _ | with_reducible refine Below.alloc ?_ (by first | omega | (simp; done) | (simp; omega)) _ | with_reducible refine Below.setCell ?_ (by first | omega | (simp; done) | (simp; omega)) _ | with_reducible refine below_setRow ?_ (by first | omega | (simp; done) | (simp; omega)) _))⟩
theorem rcmp_any (an ad bn bd : Int) (w : World) (h1 : 0 ≤ an) (h1' : an ≤ 18446744073709551615) (h2 : 0 ≤ ad) (h2' : ad ≤ 18446744073709551615) (h3 : 0 ≤ bn) (h3' : bn ≤ 18446744073709551615) (h4 : 0 ≤ bd) (h4' : bd ≤ 18446744073709551615) :
    Calls Try.prog 43 #[.agg #[.int .u64 an, .int .u64 ad], .agg #[.int .u64 bn, .int .u64 bd]] w fun e w' => e = .returned (.tuple #[.int .i64 (cmpR an ad bn bd).1, .int .i64 (cmpR an ad bn bd).2]) ∧ Below w.heap.size w w' := by
  by_cases z1 : ad = 0
  · exact rcmp_z1 an ad bn bd w z1
  by_cases z2 : bd = 0
  · exact rcmp_z2 an ad bn bd w z1 z2
  by_cases hl : an < 4294967296 ∧ ad < 4294967296 ∧ bn < 4294967296 ∧ bd < 4294967296
  · exact rcmp_small an ad bn bd w z1 z2 h1 h2 h3 h4 hl.1 hl.2.1 hl.2.2.1 hl.2.2.2
  · exact rcmp_great an ad bn bd w z1 z2 h1 h1' h2 h2' h3 h3' h4 h4' hl
end Go.Proofs.Yteccpjijlkjneaa
