/- Chapter 8's statements: awake, plain, the reference's order of keys. -/
import Derived.Test.YthdbiablpkeagaaFbS
import Derived.Test.YthdbiablpkeagaaBig4
import Derived.BigQuiet
import Derived.Deep.QuietTactic
namespace Go.Proofs.Ythdbiablpkeagaa
open Go.RowKit
variable {B H g cap : Nat} {w w' : World} {s s' : Hp} {least n : Int}
/-- The reference's order of keys. -/
def compI (k l : K3) : Int := if (cmpR k.1 k.2.1 l.1 l.2.1).1 = 0 ∧ k.2.2 ≠ l.2.2 then (if k.2.2 < l.2.2 then -1 else 1) else (cmpR k.1 k.2.1 l.1 l.2.1).1
def okW (k : K3) : Prop := 0 ≤ k.1 ∧ k.1 ≤ 18446744073709551615 ∧ 0 ≤ k.2.1 ∧ k.2.1 ≤ 18446744073709551615
theorem okK.wd {k : K3} (h : okK k) : okW k := ⟨h.1.1, h.1.2.1, Int.le_of_lt h.2, h.1.2.2⟩
theorem comp_le {k l : K3} {a b : Nat} (hk : okK k) (hl : okK l) (h : Ltk k a l b) : compI k l ≤ 0 ∧ (compI k l = 0 → a < b) := by
  have e : cmpR k.1 k.2.1 l.1 l.2.1 = (cmpZ (k.1 * l.2.1) (l.1 * k.2.1), 0) := by
    unfold cmpR
    rw [if_neg (by have := hk.2; have := hl.2; omega)]
  unfold compI
  rw [e]
  unfold Ltk at h
  simp only
  rcases h with h | ⟨h1, h2⟩
  · have hz : cmpZ (k.1 * l.2.1) (l.1 * k.2.1) = -1 := by unfold cmpZ; rw [if_pos h]
    rw [hz, if_neg (by simp)]
    exact ⟨by omega, fun h => by omega⟩
  · have hz : cmpZ (k.1 * l.2.1) (l.1 * k.2.1) = 0 := by unfold cmpZ; rw [if_neg (by omega), if_neg (by omega)]
    rw [hz]
    rcases h2 with h2 | ⟨h2, h3⟩
    · rw [if_pos ⟨rfl, by omega⟩, if_pos h2]
      exact ⟨by omega, fun h => by omega⟩
    · rw [if_neg (fun q => q.2 h2)]
      exact ⟨by omega, fun _ => h3⟩
set_option maxHeartbeats 1000000 in
theorem plain_g (k0 k1 k2 : Int) (w : World) : Calls Try.prog 13 #[.agg #[.int .u64 k0, .int .u64 k1, .int .i64 k2]] w fun e w' => e = .returned (.agg #[.int .u64 k0, .int .u64 k1, .int .i64 k2]) ∧ Below w.heap.size w w' := by
  have infoR : (Try.prog.info? 36).map (·.size) = some 3 := by kernel_rfl
  go_enter Try.func13, Try.ntmps13
  go_wp2
  refine ret_row1 rfl (w.heap.size + 1) #[.int .u64 k0, .int .u64 k1, .int .i64 k2] 36 _ rfl Try.underlying36 rfl infoR rfl (by apply Exists.intro; refine ⟨?_, ?_⟩; (focus ((repeat (first | (with_reducible assumption) | (with_reducible exact alloc_at _ _) | ((with_reducible apply alloc_at'); (simp; done)) | (with_reducible apply alloc_at_lt) | (with_reducible apply heap_drew_at) | (with_reducible apply heap_drewN_at) | (with_reducible apply heap_setCell_same) | ((with_reducible apply heap_set_ne); (first | omega | (dsimp only; omega) | (simp; done) | (simp; omega))) | (with_reducible apply setRow_at) | ((with_reducible apply setRow_ne); (first | omega | (dsimp only; omega) | (simp; done) | (simp; omega))))))); simp) ⟨rfl, (by repeat (first | with_reducible assumption | with_reducible exact Below.refl _ _ | with_reducible refine Below.drew ?_ | with_reducible refine below_drewN ?_ _ | with_reducible refine below_alloc ?_ _ | with_reducible refine Below.alloc ?_ (by first | omega | (simp; done) | (simp; omega)) _ | with_reducible refine Below.setCell ?_ (by first | omega | (simp; done) | (simp; omega)) _ | with_reducible refine below_setRow ?_ (by first | omega | (simp; done) | (simp; omega)) _))⟩
set_option maxHeartbeats 2000000 in
theorem comp_g (k l : K3) (w : World) (hk : okW k) (hl : okW l) : Calls Try.prog 12 #[.agg #[.int .u64 k.1, .int .u64 k.2.1, .int .i64 k.2.2], .agg #[.int .u64 l.1, .int .u64 l.2.1, .int .i64 l.2.2]] w fun e w' => e = .returned (.int .i64 (compI k l)) ∧ Below w.heap.size w w' := by
  obtain ⟨k0, k1, k2⟩ := k
  obtain ⟨l0, l1, l2⟩ := l
  have hC : ∀ W, Calls Try.prog 26 #[.agg #[.int .u64 k0, .int .u64 k1], .agg #[.int .u64 l0, .int .u64 l1]] W fun e w' => e = .returned (.tuple #[.int .i64 (cmpR k0 k1 l0 l1).1, .int .i64 (cmpR k0 k1 l0 l1).2]) ∧ Below W.heap.size W w' := fun W => rcmp_any k0 k1 l0 l1 W hk.1 hk.2.1 hk.2.2.1 hk.2.2.2 hl.1 hl.2.1 hl.2.2.1 hl.2.2.2
  have HC := hid hC
  have HV : Hid (compI (k0, k1, k2) (l0, l1, l2) = if (cmpR k0 k1 l0 l1).1 = 0 ∧ k2 ≠ l2 then (if k2 < l2 then -1 else 1) else (cmpR k0 k1 l0 l1).1) := rfl
  generalize compI (k0, k1, k2) (l0, l1, l2) = z at HV ⊢
  generalize cmpR k0 k1 l0 l1 = c at HC HV
  obtain ⟨c0, c1⟩ := c
  simp only at HC HV ⊢
  clear hC hk hl
  go_enter Try.func12, Try.ntmps12
  go_wp2_with fail
  refine (HC.out _).mono ?_
  rintro e w1 ⟨rfl, hb1⟩
  have hs1 := hb1.size
  simp only [World.size_alloc] at hs1
  have X := below_at hb1 (n := w.heap.size) (by first | omega | (simp; done) | (simp; omega)) (at_of (cs := #[.int .u64 k0, .int .u64 k1, .int .i64 k2]) (t := 36) (fr := (0, 0)) (by apply Exists.intro; refine ⟨?_, ?_⟩; (focus ((repeat (first | (with_reducible assumption) | (with_reducible exact alloc_at _ _) | ((with_reducible apply alloc_at'); (simp; done)) | (with_reducible apply alloc_at_lt) | (with_reducible apply heap_drew_at) | (with_reducible apply heap_drewN_at) | (with_reducible apply heap_setCell_same) | ((with_reducible apply heap_set_ne); (first | omega | (dsimp only; omega) | (simp; done) | (simp; omega))) | (with_reducible apply setRow_at) | ((with_reducible apply setRow_ne); (first | omega | (dsimp only; omega) | (simp; done) | (simp; omega))))))); simp))
  have Y := below_at hb1 (n := w.heap.size + 1) (by first | omega | (simp; done) | (simp; omega)) (at_of (cs := #[.int .u64 l0, .int .u64 l1, .int .i64 l2]) (t := 36) (fr := (0, 0)) (by apply Exists.intro; refine ⟨?_, ?_⟩; (focus ((repeat (first | (with_reducible assumption) | (with_reducible exact alloc_at _ _) | ((with_reducible apply alloc_at'); (simp; done)) | (with_reducible apply alloc_at_lt) | (with_reducible apply heap_drew_at) | (with_reducible apply heap_drewN_at) | (with_reducible apply heap_setCell_same) | ((with_reducible apply heap_set_ne); (first | omega | (dsimp only; omega) | (simp; done) | (simp; omega))) | (with_reducible apply setRow_at) | ((with_reducible apply setRow_ne); (first | omega | (dsimp only; omega) | (simp; done) | (simp; omega))))))); simp))
  have x2 : w1.cell? ⟨w.heap.size, 2, none⟩ = some (.int .i64 k2) := (blk_cell X 2).trans rfl
  have y2 : w1.cell? ⟨w.heap.size + 1, 2, none⟩ = some (.int .i64 l2) := (blk_cell Y 2).trans rfl
  have B1 : Below w.heap.size w w1 := Below.trans (by repeat (first | with_reducible assumption | with_reducible exact Below.refl _ _ | with_reducible refine Below.drew ?_ | with_reducible refine below_drewN ?_ _ | with_reducible refine below_alloc ?_ _ | with_reducible refine Below.alloc ?_ (by first | omega | (simp; done) | (simp; omega)) _ | with_reducible refine Below.setCell ?_ (by first | omega | (simp; done) | (simp; omega)) _ | with_reducible refine below_setRow ?_ (by first | omega | (simp; done) | (simp; omega)) _)) (hb1.mono (by first | omega | (simp; done) | (simp; omega)))
  clear X Y hb1
  by_cases h0 : c0 = 0
  · subst h0
    by_cases h1 : k2 = l2
    · subst h1
      have e : z = 0 := by rw [HV.out, if_neg (by simp)]
      subst e
      go_wp2
      go_ret
      exact ⟨rfl, B1⟩
    · have hn : (k2 != l2) = true := by simpa using h1
      have hh1 := hid h1
      clear h1
      by_cases h2 : k2 < l2
      · have e : z = -1 := by rw [HV.out, if_pos ⟨rfl, hh1.out⟩, if_pos h2]
        subst e
        go_wp2
        go_ret
        exact ⟨rfl, B1⟩
      · have e : z = 1 := by rw [HV.out, if_pos ⟨rfl, hh1.out⟩, if_neg h2]
        subst e
        go_wp2
        go_ret
        exact ⟨rfl, B1⟩
  · have hn : (c0 == 0) = false := by simpa using h0
    have e : z = c0 := by rw [HV.out, if_neg (fun q => h0 q.1)]
    subst e
    clear h0
    go_wp2
    go_ret
    exact ⟨rfl, B1⟩
theorem Good.whole1 {k : K3} {s' : Hp} (h : SameK (hp0.insS k) s') : s'.m = 1 := h.1
set_option maxRecDepth 20000 in
set_option maxHeartbeats 4000000 in
theorem awake_g (w : World) : Calls Try.prog 8 #[] w fun e w' => e = .returned (.bool true) ∧ Below w.heap.size w w' := by
  go_enter Try.func8, Try.ntmps8
  go_wp2_with fail
  refine (newh_g w.heap.size w (Nat.le_refl _)).mono ?_
  rintro e w1 ⟨rfl, hb1, hH1⟩
  have hs1 := hb1.size
  have HH := hid hH1
  have HB1 := hid hb1
  have hl1 := hH1.ltH
  clear hH1 hb1
  go_upto_region 6 with fail
  refine wp_name ?_
  intro w2 hw2
  have b2 : Below w1.heap.size w1 w2 := by rw [hw2]; exact (by repeat (first | with_reducible assumption | with_reducible exact Below.refl _ _ | with_reducible refine Below.drew ?_ | with_reducible refine below_drewN ?_ _ | with_reducible refine below_alloc ?_ _ | with_reducible refine Below.alloc ?_ (by first | omega | (simp; done) | (simp; omega)) _ | with_reducible refine Below.setCell ?_ (by first | omega | (simp; done) | (simp; omega)) _ | with_reducible refine below_setRow ?_ (by first | omega | (simp; done) | (simp; omega)) _))
  have K2 : w2.heap[w1.heap.size]? = some (.cells #[.int .u64 0, .int .u64 3, .int .i64 0] 33 (0, 0)) := by rw [hw2]; exact at_of (by apply Exists.intro; refine ⟨?_, ?_⟩; (focus ((repeat (first | (with_reducible assumption) | (with_reducible exact alloc_at _ _) | ((with_reducible apply alloc_at'); (simp; done)) | (with_reducible apply alloc_at_lt) | (with_reducible apply heap_drew_at) | (with_reducible apply heap_drewN_at) | (with_reducible apply heap_setCell_same) | ((with_reducible apply heap_set_ne); (first | omega | (dsimp only; omega) | (simp; done) | (simp; omega))) | (with_reducible apply setRow_at) | ((with_reducible apply setRow_ne); (first | omega | (dsimp only; omega) | (simp; done) | (simp; omega))))))); simp)
  have c0 : w2.cell? ⟨w1.heap.size, 0, none⟩ = some (.int .u64 0) := (blk_cell K2 0).trans rfl
  have c1 : w2.cell? ⟨w1.heap.size, 1, none⟩ = some (.int .u64 3) := (blk_cell K2 1).trans rfl
  have c2 : w2.cell? ⟨w1.heap.size, 2, none⟩ = some (.int .i64 0) := (blk_cell K2 2).trans rfl
  have HH2 := hid (HH.out.below b2)
  have HB2 := hid (HB1.out.trans (b2.mono hs1))
  clear hw2 b2 K2
  go_wp2_with fail
  refine (insert_ok (0, 3, 0) HH2.out good0 ⟨⟨by decide, by decide, by decide⟩, by decide⟩ (by decide)).mono ?_
  rintro e w3 ⟨rfl, v3, s3, l3, h3, g3, sk3, -, t3⟩
  have em : s3.m = 1 := sk3.1
  obtain ⟨gg, cap, rfl, hG⟩ := h3.open_ (by omega)
  have hBB := t3.below HH2.out.le HH2.out.foot
  have HB3 := hid (HB2.out.trans hBB)
  rcases g3.min with ⟨-, hh, -⟩ | ⟨x, hl, hx, -, hn, -⟩
  · exact absurd hh (by decide)
  · have ex : x = 0 := by omega
    subst ex
    have HG3 := hid hG
    have hMin : Hid (∀ W, Below w3.heap.size w3 W → Calls Try.prog 18 #[.pointer (some ⟨w.heap.size, 0, none⟩)] W fun e w' => e = .returned (.tuple #[.int .i64 0, .agg #[.int .u64 (s3.key 0).1, .int .u64 (s3.key 0).2.1, .int .i64 (s3.key 0).2.2], .int .i64 0]) ∧ Below W.heap.size W w') := fun W hb => min_some (HG3.out.below hb) hl hx g3.1 hn
    clear c0 c1 c2 h3 g3 sk3 t3 em hG hBB hl hx hn HH HH2 HB1 HB2
    simp only [hp0]
    go_wp2_with fail
    refine (hMin.out _ (Below.refl _ _)).mono ?_
    rintro e w4 ⟨rfl, hb4⟩
    have hL : Hid (∀ W, Below w4.heap.size w4 W → Calls Try.prog 14 #[.pointer (some ⟨w.heap.size, 0, none⟩)] W fun e w' => e = .returned (.int .i64 1) ∧ W = w') := fun W hb => len_g ((HG3.out.below hb4).toV.below hb)
    have HB4 := hid (HB3.out.trans (hb4.mono HB3.out.size))
    clear hb4 hMin
    go_wp2_with fail
    refine (hL.out _ (by repeat (first | with_reducible assumption | with_reducible exact Below.refl _ _ | with_reducible refine Below.drew ?_ | with_reducible refine below_drewN ?_ _ | with_reducible refine below_alloc ?_ _ | with_reducible refine Below.alloc ?_ (by first | omega | (simp; done) | (simp; omega)) _ | with_reducible refine Below.setCell ?_ (by first | omega | (simp; done) | (simp; omega)) _ | with_reducible refine below_setRow ?_ (by first | omega | (simp; done) | (simp; omega)) _))).mono ?_
    rintro e w5 ⟨rfl, rfl⟩
    have hB4 := HB4.out
    go_wp2
    go_ret
    exact ⟨by first | rfl | simp, (by repeat (first | with_reducible assumption | with_reducible exact Below.refl _ _ | with_reducible refine Below.drew ?_ | with_reducible refine below_drewN ?_ _ | with_reducible refine below_alloc ?_ _ | with_reducible refine Below.alloc ?_ (by first | omega | (simp; done) | (simp; omega)) _ | with_reducible refine Below.setCell ?_ (by first | omega | (simp; done) | (simp; omega)) _ | with_reducible refine below_setRow ?_ (by first | omega | (simp; done) | (simp; omega)) _))⟩
end Go.Proofs.Ythdbiablpkeagaa
