/- Chapter 8's reference heap: Min. -/
import Derived.Test.YthdbiablpkeagaaRfB
namespace Go.Proofs.Ythdbiablpkeagaa
open Go.RowKit
variable {B H g cap : Nat} {w w' : World} {s s' : Hp} {v : Value}
theorem keepM {W w' : World} {H g i y m cap : Nat} {ki ky : K3} (hH : H < W.heap.size) (hg : g < W.heap.size) (hc : W.cell? ⟨H, 0, none⟩ = some (.slice (some ⟨g, 0, none⟩) m cap) ∧ W.cell? ⟨g, i * 4, none⟩ = some (.int .u64 ki.1) ∧ W.cell? ⟨g, i * 4 + 1, none⟩ = some (.int .u64 ki.2.1) ∧ W.cell? ⟨g, i * 4 + 2, none⟩ = some (.int .i64 ki.2.2) ∧ W.cell? ⟨g, i * 4 + 3, none⟩ = some (.bool true) ∧ W.cell? ⟨g, y * 4, none⟩ = some (.int .u64 ky.1) ∧ W.cell? ⟨g, y * 4 + 1, none⟩ = some (.int .u64 ky.2.1) ∧ W.cell? ⟨g, y * 4 + 2, none⟩ = some (.int .i64 ky.2.2)) (h : Below W.heap.size W w') : w'.cell? ⟨H, 0, none⟩ = some (.slice (some ⟨g, 0, none⟩) m cap) ∧ w'.cell? ⟨g, i * 4, none⟩ = some (.int .u64 ki.1) ∧ w'.cell? ⟨g, i * 4 + 1, none⟩ = some (.int .u64 ki.2.1) ∧ w'.cell? ⟨g, i * 4 + 2, none⟩ = some (.int .i64 ki.2.2) ∧ w'.cell? ⟨g, i * 4 + 3, none⟩ = some (.bool true) ∧ w'.cell? ⟨g, y * 4, none⟩ = some (.int .u64 ky.1) ∧ w'.cell? ⟨g, y * 4 + 1, none⟩ = some (.int .u64 ky.2.1) ∧ w'.cell? ⟨g, y * 4 + 2, none⟩ = some (.int .i64 ky.2.2) := by
  obtain ⟨c0, k0, k1, k2, k3, y0, y1, y2⟩ := hc
  exact ⟨(h.cell (p := ⟨H, 0, none⟩) hH).trans c0, (h.cell (p := ⟨g, _, none⟩) hg).trans k0, (h.cell (p := ⟨g, _, none⟩) hg).trans k1, (h.cell (p := ⟨g, _, none⟩) hg).trans k2, (h.cell (p := ⟨g, _, none⟩) hg).trans k3, (h.cell (p := ⟨g, _, none⟩) hg).trans y0, (h.cell (p := ⟨g, _, none⟩) hg).trans y1, (h.cell (p := ⟨g, _, none⟩) hg).trans y2⟩
set_option maxRecDepth 100000 in
set_option maxHeartbeats 8000000 in
theorem rmin_g (h : RefV B w H v s) (hm : s.m ≤ 1048576) (hok : ∀ z, s.th z = true → okK (s.key z)) : Calls Try.prog 34 #[.pointer (some ⟨H, 0, none⟩)] w fun e w' =>
    (∃ b, Best s s.m b ∧ ((b = -1 ∧ e = .returned (.tuple #[.int .i64 0, keyV (0, 0, 0), .int .i64 3])) ∨ ∃ y : Nat, b = (y : Int) ∧ e = .returned (.tuple #[.int .i64 y, keyV (s.key y), .int .i64 0]))) ∧ Below w.heap.size w w' := by
  have infoR : (Try.prog.info? 36).map (·.size) = some 3 := by kernel_rfl
  obtain ⟨c0, cf, A, cap, rfl⟩ := h.head
  have hl := h.ltH
  have HH := hid h
  have HM := hid hm
  have HOK := hid hok
  have HIR := hid infoR
  obtain ⟨m, hmm⟩ : ∃ m, m = s.m := ⟨_, rfl⟩
  rw [← hmm] at c0 ⊢
  have hmb : (m : Int) ≤ 1048576 := by omega
  have HMM := hid hmm
  clear h hm hmm hok infoR
  go_enter Try.func34, Try.ntmps34
  go_upto_region 1 with (fail)
  refine wp_name ?_
  intro w1 hw1
  have X1 : w1.heap[w.heap.size]? = some (.cells #[.int .u64 0, .int .u64 0, .int .i64 0] 36 (0, 0)) := by rw [hw1]; exact (by (repeat (first | (with_reducible assumption) | (with_reducible exact alloc_at _ _) | ((with_reducible apply alloc_at'); (simp; done)) | (with_reducible apply alloc_at_lt) | (with_reducible apply heap_drew_at) | (with_reducible apply heap_drewN_at) | (with_reducible apply heap_setCell_same) | ((with_reducible apply heap_set_ne); (first | omega | (dsimp only; omega) | (simp; done) | (simp; omega))) | (with_reducible apply setRow_at) | ((with_reducible apply setRow_ne); (first | omega | (dsimp only; omega) | (simp; done) | (simp; omega))))))
  have B1 : Below w.heap.size w w1 := by rw [hw1]; exact (by repeat (first | with_reducible assumption | with_reducible exact Below.refl _ _ | with_reducible refine Below.drew ?_ | with_reducible refine below_drewN ?_ _ | with_reducible refine below_alloc ?_ _ | with_reducible refine Below.alloc ?_ (by first | omega | (simp; done) | (simp; omega)) _ | with_reducible refine Below.setCell ?_ (by first | omega | (simp; done) | (simp; omega)) _ | with_reducible refine below_setRow ?_ (by first | omega | (simp; done) | (simp; omega)) _))
  have HX1 := hid X1
  have HB1 := hid B1
  clear hw1 X1 B1 c0 cf
  go_wp2_with fail
  go_loopw [5, 6] (fun bv iv wr => ∃ (i : Nat) (b : Int), i ≤ m ∧ -1 ≤ b ∧ b ≤ 1048576 ∧ bv = .int .i64 b ∧ iv = .int .i64 i ∧ Hid (Best s i b) ∧ Hid (Below w1.heap.size w1 wr)) (fun _ iv _ => m - (intOf iv).toNat)
  case atStart => exact ⟨0, -1, Nat.zero_le _, by omega, by omega, rfl, rfl, .inl ⟨rfl, fun z hz => by omega⟩, Below.refl _ _⟩
  case round =>
    obtain ⟨i, b, hi, hb1, hb2, rfl, rfl, HBS, HB⟩ := hrel
    have HW := hid (HB1.out.trans (HB.out.mono HB1.out.size))
    have HR := hid (HH.out.below HW.out)
    obtain ⟨c0, cf, -⟩ := HR.out.head
    rw [← HMM.out] at c0
    by_cases him : i < m
    · have HK1 : Hid (i + 1 ≤ m) := him
      have HMS : Hid (m - (i + 1) < m - i) := by unfold Hid; omega
      have hii : (i : Int) < (m : Int) := by omega
      have hib : (i : Int) ≤ 1048576 := by omega
      obtain ⟨g, cap2, e, hne, hgl, gf, hc⟩ := HR.out.open_ (by have := HMM.out; omega)
      obtain ⟨k0, k1, k2, k3⟩ := hc i (by have := HMM.out; omega)
      rw [← HMM.out] at e
      injection e with e e7 e6
      subst e
      subst e6
      clear e7
      have HCC := hid hc
      clear hc hi him
      cases ht : s.th i with
      | false =>
        rw [ht] at k3
        have HN := hid (HBS.out.skip ht)
        have HB1' := hid (And.intro hb1 hb2)
        clear ht hb1 hb2
        go_upto_region 5 with (fail)
        go_region
        go_wp2
        go_roundw
        case rel => exact ⟨i + 1, b, HK1.out, HB1'.out.1, HB1'.out.2, rfl, by go_num, HN, hid (by have hB := HB.out; exact (by repeat (first | with_reducible assumption | with_reducible exact Below.refl _ _ | with_reducible refine Below.drew ?_ | with_reducible refine below_drewN ?_ _ | with_reducible refine below_alloc ?_ _ | with_reducible refine Below.alloc ?_ (by first | omega | (simp; done) | (simp; omega)) _ | with_reducible refine Below.setCell ?_ (by first | omega | (simp; done) | (simp; omega)) _ | with_reducible refine below_setRow ?_ (by first | omega | (simp; done) | (simp; omega)) _)))⟩
        case measure => have := HMS.out; simp [intOf]; omega
      | true =>
        rw [ht] at k3
        by_cases hb : b = -1
        · subst hb
          have HN := hid (HBS.out.first ht)
          clear ht hb1 hb2
          go_upto_region 5 with (fail)
          go_region
          go_wp2
          go_roundw
          case rel => exact ⟨i + 1, i, HK1.out, by omega, hib, rfl, by go_num, HN, hid (by have hB := HB.out; exact (by repeat (first | with_reducible assumption | with_reducible exact Below.refl _ _ | with_reducible refine Below.drew ?_ | with_reducible refine below_drewN ?_ _ | with_reducible refine below_alloc ?_ _ | with_reducible refine Below.alloc ?_ (by first | omega | (simp; done) | (simp; omega)) _ | with_reducible refine Below.setCell ?_ (by first | omega | (simp; done) | (simp; omega)) _ | with_reducible refine below_setRow ?_ (by first | omega | (simp; done) | (simp; omega)) _)))⟩
          case measure => have := HMS.out; simp [intOf]; omega
        · obtain ⟨y, rfl⟩ : ∃ y : Nat, b = (y : Int) := ⟨b.toNat, by omega⟩
          obtain ⟨⟨ty, hyi⟩, hn1, hn2⟩ := HBS.out.cmp ht HOK.out
          have HN1 := hid hn1
          have HN2 := hid hn2
          have HKI := hid (HOK.out i ht).wd
          have HKY := hid (HOK.out y ty).wd
          obtain ⟨y0, y1, y2, -⟩ := HCC.out y (by have := HMM.out; omega)
          have hyb : (y : Int) < (m : Int) := by omega
          have hyn : ¬ ((y : Int) < 0) := by omega
          have hym : (y : Int) ≤ 1048576 := by omega
          obtain ⟨ki, hki⟩ : ∃ ki, ki = s.key i := ⟨_, rfl⟩
          obtain ⟨ky, hky⟩ : ∃ ky, ky = s.key y := ⟨_, rfl⟩
          rw [← hki] at k0 k1 k2 HN1 HN2 HKI
          rw [← hky] at y0 y1 y2 HN1 HN2 HKY
          clear ht hb1 hb2 hb hn1 hn2 ty hyi hki hky
          go_upto_region 5 with (fail)
          have hlr := HR.out.ltH
          have KC := hid (And.intro c0 (And.intro k0 (And.intro k1 (And.intro k2 (And.intro k3 (And.intro y0 (And.intro y1 y2)))))))
          go_region_held3 (fun w' => w'.cell? ⟨H, 0, none⟩ = some (.slice (some ⟨g, 0, none⟩) m cap) ∧ w'.cell? ⟨g, i * 4, none⟩ = some (.int .u64 ki.1) ∧ w'.cell? ⟨g, i * 4 + 1, none⟩ = some (.int .u64 ki.2.1) ∧ w'.cell? ⟨g, i * 4 + 2, none⟩ = some (.int .i64 ki.2.2) ∧ w'.cell? ⟨g, i * 4 + 3, none⟩ = some (.bool true) ∧ w'.cell? ⟨g, y * 4, none⟩ = some (.int .u64 ky.1) ∧ w'.cell? ⟨g, y * 4 + 1, none⟩ = some (.int .u64 ky.2.1) ∧ w'.cell? ⟨g, y * 4 + 2, none⟩ = some (.int .i64 ky.2.2)) (((try go_split_ands); (try dsimp only); refine keepM hlr hgl KC.out ?_; (repeat (first | with_reducible assumption | with_reducible exact Below.refl _ _ | with_reducible refine Below.drew ?_ | with_reducible refine below_drewN ?_ _ | with_reducible refine below_alloc ?_ _ | with_reducible refine Below.alloc ?_ (by first | omega | (simp; done) | (simp; omega)) _ | with_reducible refine Below.setCell ?_ (by first | omega | (simp; done) | (simp; omega)) _ | with_reducible refine below_setRow ?_ (by first | omega | (simp; done) | (simp; omega)) _)))) (first | (go_at_call 12; refine (comp_g ki ky _ HKI.out HKY.out).mono ?_; rintro e w91 ⟨rfl, b91⟩; have D91 : Below wr.heap.size wr w91 := Below.trans (by repeat (first | with_reducible assumption | with_reducible exact Below.refl _ _ | with_reducible refine Below.drew ?_ | with_reducible refine below_drewN ?_ _ | with_reducible refine below_alloc ?_ _ | with_reducible refine Below.alloc ?_ (by first | omega | (simp; done) | (simp; omega)) _ | with_reducible refine Below.setCell ?_ (by first | omega | (simp; done) | (simp; omega)) _ | with_reducible refine below_setRow ?_ (by first | omega | (simp; done) | (simp; omega)) _)) (b91.mono (Below.size (B := wr.heap.size) (w := wr) (by repeat (first | with_reducible assumption | with_reducible exact Below.refl _ _ | with_reducible refine Below.drew ?_ | with_reducible refine below_drewN ?_ _ | with_reducible refine below_alloc ?_ _ | with_reducible refine Below.alloc ?_ (by first | omega | (simp; done) | (simp; omega)) _ | with_reducible refine Below.setCell ?_ (by first | omega | (simp; done) | (simp; omega)) _ | with_reducible refine below_setRow ?_ (by first | omega | (simp; done) | (simp; omega)) _))))))
          all_goals
            have HB9 := hid (HB.out.trans (D91.mono HB.out.size))
            clear D91 b91
            cases hq : decide (compI ki ky < 0) with
            | true =>
              have hl : compI ki ky < 0 := of_decide_eq_true hq
              have HN := hid (HN1.out hl)
              clear HN1 HN2 hq HKI HKY
              generalize compI ki ky = cc at hl ⊢
              go_wp2
              go_roundw
              case rel => exact ⟨i + 1, i, HK1.out, by omega, hib, rfl, by go_num, HN, hid (by have hB := HB9.out; exact (by repeat (first | with_reducible assumption | with_reducible exact Below.refl _ _ | with_reducible refine Below.drew ?_ | with_reducible refine below_drewN ?_ _ | with_reducible refine below_alloc ?_ _ | with_reducible refine Below.alloc ?_ (by first | omega | (simp; done) | (simp; omega)) _ | with_reducible refine Below.setCell ?_ (by first | omega | (simp; done) | (simp; omega)) _ | with_reducible refine below_setRow ?_ (by first | omega | (simp; done) | (simp; omega)) _)))⟩
              case measure => have := HMS.out; simp [intOf]; omega
            | false =>
              have hl : ¬ compI ki ky < 0 := of_decide_eq_false hq
              have HN := hid (HN2.out (by omega))
              clear HN1 HN2 hq HKI HKY
              generalize compI ki ky = cc at hl ⊢
              go_wp2
              go_roundw
              case rel => exact ⟨i + 1, y, HK1.out, by omega, hym, rfl, by go_num, HN, hid (by have hB := HB9.out; exact (by repeat (first | with_reducible assumption | with_reducible exact Below.refl _ _ | with_reducible refine Below.drew ?_ | with_reducible refine below_drewN ?_ _ | with_reducible refine below_alloc ?_ _ | with_reducible refine Below.alloc ?_ (by first | omega | (simp; done) | (simp; omega)) _ | with_reducible refine Below.setCell ?_ (by first | omega | (simp; done) | (simp; omega)) _ | with_reducible refine below_setRow ?_ (by first | omega | (simp; done) | (simp; omega)) _)))⟩
              case measure => have := HMS.out; simp [intOf]; omega
    · have eim : i = m := by omega
      have him' : ¬ ((i : Int) < (m : Int)) := by omega
      have x1 : wr.heap[w.heap.size]? = some (.cells #[.int .u64 0, .int .u64 0, .int .i64 0] 36 (0, 0)) := below_at HB.out (lt_of_at HX1.out) HX1.out
      have BW := HW.out
      have q0 := (blk_cell x1 0).trans rfl
      have q1 := (blk_cell x1 1).trans rfl
      have q2 := (blk_cell x1 2).trans rfl
      have qf := blk_free x1
      rw [eim] at HBS
      by_cases hb : b = -1
      · subst hb
        have F : Hid (∃ b, Best s m b ∧ ((b = -1 ∧ (Ending.returned (.tuple #[.int .i64 0, .agg #[.int .u64 0, .int .u64 0, .int .i64 0], .int .i64 3]) : Ending) = .returned (.tuple #[.int .i64 0, keyV (0, 0, 0), .int .i64 3])) ∨ ∃ y : Nat, b = (y : Int) ∧ (Ending.returned (.tuple #[.int .i64 0, .agg #[.int .u64 0, .int .u64 0, .int .i64 0], .int .i64 3]) : Ending) = .returned (.tuple #[.int .i64 y, keyV (s.key y), .int .i64 0]))) := ⟨-1, HBS.out, .inl ⟨rfl, rfl⟩⟩
        clear hi him hb1 hb2 eim HR
        go_wp2
        refine ret_row3 rfl w.heap.size #[.int .u64 0, .int .u64 0, .int .i64 0] 36 _ rfl Try.underlying36 rfl HIR.out rfl (by apply Exists.intro; refine ⟨?_, ?_⟩; (focus ((repeat (first | (with_reducible assumption) | (with_reducible exact alloc_at _ _) | ((with_reducible apply alloc_at'); (simp; done)) | (with_reducible apply alloc_at_lt) | (with_reducible apply heap_drew_at) | (with_reducible apply heap_drewN_at) | (with_reducible apply heap_setCell_same) | ((with_reducible apply heap_set_ne); (first | omega | (dsimp only; omega) | (simp; done) | (simp; omega))) | (with_reducible apply setRow_at) | ((with_reducible apply setRow_ne); (first | omega | (dsimp only; omega) | (simp; done) | (simp; omega))))))); simp) ⟨F.out, (by repeat (first | with_reducible assumption | with_reducible exact Below.refl _ _ | with_reducible refine Below.drew ?_ | with_reducible refine below_drewN ?_ _ | with_reducible refine below_alloc ?_ _ | with_reducible refine Below.alloc ?_ (by first | omega | (simp; done) | (simp; omega)) _ | with_reducible refine Below.setCell ?_ (by first | omega | (simp; done) | (simp; omega)) _ | with_reducible refine below_setRow ?_ (by first | omega | (simp; done) | (simp; omega)) _))⟩
      · obtain ⟨y, rfl⟩ : ∃ y : Nat, b = (y : Int) := ⟨b.toNat, by omega⟩
        have hym : y < m := by
          rcases HBS.out with ⟨e, -⟩ | ⟨y', e, h1, -⟩
          · omega
          · omega
        have hyb : (y : Int) < (m : Int) := by omega
        have hyn : ¬ ((y : Int) < 0) := by omega
        obtain ⟨g, cap2, e, hne, hgl, gf, hc⟩ := HR.out.open_ (by have := HMM.out; omega)
        obtain ⟨y0, y1, y2, -⟩ := hc y (by have := HMM.out; omega)
        rw [← HMM.out] at e
        injection e with e e7 e6
        subst e
        subst e6
        have F : Hid (∃ b, Best s m b ∧ ((b = -1 ∧ (Ending.returned (.tuple #[.int .i64 y, .agg #[.int .u64 (s.key y).1, .int .u64 (s.key y).2.1, .int .i64 (s.key y).2.2], .int .i64 0]) : Ending) = .returned (.tuple #[.int .i64 0, keyV (0, 0, 0), .int .i64 3])) ∨ ∃ y' : Nat, b = (y' : Int) ∧ (Ending.returned (.tuple #[.int .i64 y, .agg #[.int .u64 (s.key y).1, .int .u64 (s.key y).2.1, .int .i64 (s.key y).2.2], .int .i64 0]) : Ending) = .returned (.tuple #[.int .i64 y', keyV (s.key y'), .int .i64 0]))) := ⟨y, HBS.out, .inr ⟨y, rfl, rfl⟩⟩
        generalize s.key y = k at *
        obtain ⟨z0, z1, z2⟩ := k
        simp only at y0 y1 y2 F
        clear hi him hb1 hb2 eim HR hc e7 hym hb
        go_upto_region 9 with (fail)
        go_region
        go_wp2
        refine ret_row3 rfl w.heap.size #[.int .u64 z0, .int .u64 z1, .int .i64 z2] 36 _ rfl Try.underlying36 rfl HIR.out rfl (by apply Exists.intro; refine ⟨?_, ?_⟩; (focus ((repeat (first | (with_reducible assumption) | (with_reducible exact alloc_at _ _) | ((with_reducible apply alloc_at'); (simp; done)) | (with_reducible apply alloc_at_lt) | (with_reducible apply heap_drew_at) | (with_reducible apply heap_drewN_at) | (with_reducible apply heap_setCell_same) | ((with_reducible apply heap_set_ne); (first | omega | (dsimp only; omega) | (simp; done) | (simp; omega))) | (with_reducible apply setRow_at) | ((with_reducible apply setRow_ne); (first | omega | (dsimp only; omega) | (simp; done) | (simp; omega))))))); simp) ⟨F.out, (by repeat (first | with_reducible assumption | with_reducible exact Below.refl _ _ | with_reducible refine Below.drew ?_ | with_reducible refine below_drewN ?_ _ | with_reducible refine below_alloc ?_ _ | with_reducible refine Below.alloc ?_ (by first | omega | (simp; done) | (simp; omega)) _ | with_reducible refine Below.setCell ?_ (by first | omega | (simp; done) | (simp; omega)) _ | with_reducible refine below_setRow ?_ (by first | omega | (simp; done) | (simp; omega)) _))⟩
end Go.Proofs.Ythdbiablpkeagaa
