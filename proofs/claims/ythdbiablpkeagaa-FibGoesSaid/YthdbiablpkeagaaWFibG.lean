/- FibGoes' walk: a heap that is popped, and whose keys are made less, still answers the least one. -/
import Derived.Test.YthdbiablpkeagaaFibV
import Derived.Test.YthdbiablpkeagaaFibU
namespace Go.Proofs.Ythdbiablpkeagaa
open Go.RowKit
/-- Loop 2: a heap. -/
structure GoS (B : Nat) (wr : World) (v : Value) (s : Hp) (least n : Int) : Prop where
  heap : HeapV B wr B v s least n
  good : Good s least n
set_option maxRecDepth 100000 in
set_option maxHeartbeats 8000000 in
theorem fibGoes_any (A : Option Addr) (n cap : Nat) (l : List K3) (A2 : Option Addr) (n2 cap2 : Nat) (l2 : List Int) (w : World) (hs : SlK w A n l) (hn : n ≤ maxLen) (hs2 : Sl1 mkH okH w A2 n2 l2) (hn2 : n2 ≤ maxLen) :
    Calls Try.prog 5 #[.slice A n cap, .slice A2 n2 cap2] w fun e w' => e = .returned (.bool true) ∧ Below w.heap.size w w' := by
  have HS := hid hs
  have HS2 := hid hs2
  have HNM := hid hn
  have HNM2 := hid hn2
  clear hs hn hs2 hn2
  go_enter Try.func5, Try.ntmps5
  go_wp2_with fail
  refine (awake_g w).mono ?_
  rintro e w1 ⟨rfl, hb1⟩
  have B1 := hid hb1
  clear hb1
  by_cases hn : n ≤ 200
  · have hni : ¬ (200 : Int) < (n : Int) := by omega
    have HN : Hid (n ≤ 200) := hn
    by_cases hn2 : n2 ≤ 300
    · have hni2 : ¬ (300 : Int) < (n2 : Int) := by omega
      have HN2 : Hid (n2 ≤ 300) := hn2
      go_wp2_with fail
      refine (newh_g w1.heap.size w1 (Nat.le_refl _)).mono ?_
      rintro e w2 ⟨rfl, hb2, h2⟩
      have B2 := hid (B1.out.trans (hb2.mono B1.out.size))
      have I2 : Hid (InS w1.heap.size w2 (.slice none 0 0) hp0 0 0) := ⟨h2, good0, rfl, fun z => by simp [hp0]⟩
      obtain ⟨c, hc⟩ : ∃ c, c = w1.heap.size := ⟨_, rfl⟩
      have Z : Hid (w.heap.size ≤ c) := by rw [hc]; exact B1.out.size
      rw [← hc] at I2 ⊢
      clear hb2 h2 hc B1 w1
      go_wp2_with fail
      go_loopw [6] (fun iv wr => ∃ (i : Nat) (v : Value) (s : Hp) (least : Int), i ≤ n ∧ iv = .int .i64 i ∧ Hid (InS c wr v s least i) ∧ Hid (Below w.heap.size w wr)) (fun iv _ => n - (intOf iv).toNat)
      case atStart => exact ⟨0, _, hp0, 0, Nat.zero_le _, rfl, I2, B2⟩
      case round =>
        clear I2 B2
        obtain ⟨i, v, s, least, hi, rfl, HI, HB⟩ := hrel
        by_cases hin : i < n
        · have HK1 : Hid (i + 1 ≤ n) := hin
          have HMS : Hid (n - (i + 1) < n - i) := by unfold Hid; omega
          have hii : (i : Int) < (n : Int) := by omega
          have hib : (i : Int) ≤ 200 := by have := HN.out; omega
          obtain ⟨x, b, off, -, hw, -, rfl, z0, z1, z2, hbl⟩ := HS.out.one HB.out hin
          obtain ⟨k0, k1, k2⟩ := x
          simp only at z0 z1 z2
          have hbr : b < wr.heap.size := Nat.lt_of_lt_of_le hbl HB.out.size
          have hwd : (0 : Int) ≤ k1 ∧ k1 ≤ 18446744073709551615 := ⟨hw.2.2.1, hw.2.2.2⟩
          have jk0 : IntKind.u64.wrap (k1.tdiv 2) = k1 / 2 := by rw [Int.tdiv_eq_ediv_of_nonneg hwd.1]; exact IntWalk.u64_in _ (by omega)
          have jk1 : IntKind.u64.wrap (k1 / 2 + 1) = k1 / 2 + 1 := IntWalk.u64_in _ (by omega)
          have HKK : Hid (okK (k0, k1 / 2 + 1, k2)) := ⟨⟨hw.1, hw.2.1, by show k1 / 2 + 1 ≤ _; omega⟩, by show 0 < k1 / 2 + 1; omega⟩
          clear hi hin hn hni hw hn2 hni2 hwd
          go_upto_region 9 with (fail)
          refine wp_name ?_
          intro w3 hw3
          generalize k1 / 2 + 1 = D at *
          have b3 : Below wr.heap.size wr w3 := by rw [hw3]; exact (by repeat (first | with_reducible assumption | with_reducible exact Below.refl _ _ | with_reducible refine Below.drew ?_ | with_reducible refine below_drewN ?_ _ | with_reducible refine below_alloc ?_ _ | with_reducible refine Below.alloc ?_ (by first | omega | (simp; done) | (simp; omega)) _ | with_reducible refine Below.setCell ?_ (by first | omega | (simp; done) | (simp; omega)) _ | with_reducible refine below_setRow ?_ (by first | omega | (simp; done) | (simp; omega)) _))
          have P3 : w3.heap[wr.heap.size]? = some (.cells #[.int .u64 k0, .int .u64 D, .int .i64 k2] 33 (0, 0)) := by rw [hw3]; exact (by (repeat (first | (with_reducible assumption) | (with_reducible exact alloc_at _ _) | ((with_reducible apply alloc_at'); (simp; done)) | (with_reducible apply alloc_at_lt) | (with_reducible apply heap_drew_at) | (with_reducible apply heap_drewN_at) | (with_reducible apply heap_setCell_same) | ((with_reducible apply heap_set_ne); (first | omega | (dsimp only; omega) | (simp; done) | (simp; omega))) | (with_reducible apply setRow_at) | ((with_reducible apply setRow_ne); (first | omega | (dsimp only; omega) | (simp; done) | (simp; omega))))))
          have c0 := (blk_cell P3 0).trans rfl
          have c1 := (blk_cell P3 1).trans rfl
          have c2 := (blk_cell P3 2).trans rfl
          have pf := blk_free P3
          have HI3 : Hid (InS c w3 v s least i) := HI.out.none b3
          have HB3 := hid (HB.out.trans (b3.mono HB.out.size))
          have hins := insert_ok (k0, D, k2) HI3.out.heap HI3.out.good HKK.out (by rw [HI3.out.m]; omega)
          rw [HI3.out.m] at hins
          simp only at hins
          have HINS := hid hins
          clear hins hw3 b3 P3 HI HB z0 z1 z2 jk0 jk1
          go_wp2_with fail
          refine HINS.out.mono ?_
          rintro e w4 ⟨rfl, v4, s4, least4, h4, g4, sk4, -, t4⟩
          have hb4 := t4.below HI3.out.heap.le HI3.out.heap.foot
          have HI4 : Hid (InS c w4 v4 s4 least4 (i + 1)) := InS.some HI3.out.m HI3.out.th h4 g4 sk4
          have HB4 := hid (HB3.out.trans (hb4.mono Z.out))
          clear hb4 h4 g4 sk4 t4 HINS HI3 HB3 c0 c1 c2 pf
          go_wp2
          go_roundw
          case rel => exact ⟨i + 1, v4, s4, least4, HK1.out, by go_num, HI4, HB4⟩
          case measure => have := HMS.out; simp [intOf]; omega
        · have hin' : ¬ ((i : Int) < (n : Int)) := by omega
          have HG : Hid (GoS c wr v s least (i : Int)) := ⟨HI.out.heap, HI.out.good⟩
          clear HI hin hi hni hni2 hn hn2
          go_wp2_with fail
          go_loopw [8] (fun jv wr => ∃ (j : Nat) (v : Value) (s : Hp) (least m : Int), j ≤ n2 ∧ jv = .int .i64 j ∧ Hid (GoS c wr v s least m) ∧ Hid (Below w.heap.size w wr)) (fun jv _ => n2 - (intOf jv).toNat)
          case atStart => exact ⟨0, v, s, least, i, Nat.zero_le _, rfl, HG, HB⟩
          case round =>
            clear HG HB hin'
            obtain ⟨j, v, s, least, m, hj, rfl, HG, HB⟩ := hrel
            by_cases hjn : j < n2
            · have HK1 : Hid (j + 1 ≤ n2) := hjn
              have HMS : Hid (n2 - (j + 1) < n2 - j) := by unfold Hid; omega
              have hjj : (j : Int) < (n2 : Int) := by omega
              have hjb : (j : Int) ≤ 300 := by have := HN2.out; omega
              obtain ⟨t, b, off, t0, t1, rfl, z0, hbl⟩ := HS2.out.one HB.out hjn
              have hbr : b < wr.heap.size := Nat.lt_of_lt_of_le hbl HB.out.size
              have jt : IntKind.u16.wrap (t.tmod 5) = t % 5 := by rw [Int.tmod_eq_emod_of_nonneg t0]; exact IntWalk.u16_in _ (by omega)
              clear hj hjn
              by_cases h5 : t % 5 = 0
              · have h5' : (t % 5 == 0) = true := by simp [h5]
                by_cases hm0 : m = 0
                · have HPN := hid (pop_none HG.out.heap hm0)
                  clear h5 hm0
                  go_wp2_with fail
                  refine HPN.out.mono ?_
                  rintro e w4 ⟨rfl, hb4⟩
                  have HG4 : Hid (GoS c w4 v s least m) := ⟨HG.out.heap.below hb4, HG.out.good⟩
                  have HB4 := hid (HB.out.trans (hb4.mono HB.out.size))
                  clear hb4 HG HB HPN z0
                  go_wp2
                  go_roundw
                  case rel => exact ⟨j + 1, v, s, least, m, HK1.out, by go_num, HG4, HB4⟩
                  case measure => have := HMS.out; simp [intOf]; omega
                · have hnn := HG.out.good.nn
                  obtain ⟨x, -, -, -, -, hpop⟩ := pop_v HG.out.heap HG.out.good (by omega)
                  have HPN := hid (hpop wr (Below.refl _ _))
                  clear h5 hm0 hpop hnn
                  go_wp2_with fail
                  refine HPN.out.mono ?_
                  rintro e w4 ⟨rfl, s4, least4, h4, g4, -, t4⟩
                  have hb4 := t4.below HG.out.heap.le HG.out.heap.foot
                  have HG4 : Hid (GoS c w4 v s4 least4 (m - 1)) := ⟨h4, g4⟩
                  have HB4 := hid (HB.out.trans (hb4.mono Z.out))
                  clear hb4 h4 g4 t4 HG HB HPN z0
                  go_wp2
                  go_roundw
                  case rel => exact ⟨j + 1, v, s4, least4, m - 1, HK1.out, by go_num, HG4, HB4⟩
                  case measure => have := HMS.out; simp [intOf]; omega
              · have h5' : (t % 5 == 0) = false := by simp [h5]
                have hnb : (n : Int) ≤ 200 := by have := HN.out; omega
                have hx0 := Int.emod_nonneg t (show (n : Int) + 1 ≠ 0 by omega)
                have hx1 := Int.emod_lt_of_pos t (show 0 < (n : Int) + 1 by omega)
                obtain ⟨xn, hxn⟩ : ∃ xn : Nat, (xn : Int) = t % ((n : Int) + 1) := ⟨(t % ((n : Int) + 1)).toNat, by omega⟩
                have j0 : IntKind.i64.wrap ((n : Int) + 1) = (n : Int) + 1 := IntWalk.i64_in _ (by omega)
                have jx0 : t.tmod ((n : Int) + 1) = (xn : Int) := by rw [Int.tmod_eq_emod_of_nonneg t0, hxn]
                have jx : IntKind.i64.wrap (t.tmod ((n : Int) + 1)) = (xn : Int) := by rw [jx0]; exact IntWalk.i64_in _ (by omega)
                have hxb : (xn : Int) ≤ 200 := by omega
                have nz : ¬ ((n : Int) + 1 = 0) := by omega
                have jc : IntKind.i64.wrap t = t := IntWalk.i64_in _ (by omega)
                clear h5 hx0 hx1 hxn
                go_upto_region 16 with (fail)
                by_cases tx : s.th xn = true
                · obtain ⟨okx, -⟩ := HG.out.good.ok tx
                  have hgv := get_v HG.out.heap HG.out.good tx
                  obtain ⟨kx, hkx⟩ : ∃ kx, kx = s.key xn := ⟨_, rfl⟩
                  rw [← hkx] at hgv okx
                  obtain ⟨okK2, nle⟩ := half_ok okx
                  rw [hkx] at nle
                  rw [← hkx] at nle
                  have jn0 : IntKind.u64.wrap (kx.1.tdiv 2) = kx.1 / 2 := by rw [Int.tdiv_eq_ediv_of_nonneg okx.1.1]; exact IntWalk.u64_in _ (by have := okx.1; omega)
                  have jn1 : (0 : Int) ≤ kx.1 := okx.1.1
                  have HGV := hid hgv
                  have HTX := hid tx
                  have HKX := hid hkx
                  have HOK2 := hid okK2
                  have HNLE := hid nle
                  clear hgv tx hkx okx okK2 nle
                  go_wp2_with fail
                  refine HGV.out.mono ?_
                  rintro e w4 ⟨rfl, hb4⟩
                  have HG4 : Hid (GoS c w4 v s least m) := ⟨HG.out.heap.below hb4, HG.out.good⟩
                  have HB4 := hid (HB.out.trans (hb4.mono HB.out.size))
                  clear hb4 HGV HG HB z0
                  go_upto_region 19 with (fail)
                  refine wp_name ?_
                  intro w5 hw5
                  have b5 : Below w4.heap.size w4 w5 := by rw [hw5]; exact (by repeat (first | with_reducible assumption | with_reducible exact Below.refl _ _ | with_reducible refine Below.drew ?_ | with_reducible refine below_drewN ?_ _ | with_reducible refine below_alloc ?_ _ | with_reducible refine Below.alloc ?_ (by first | omega | (simp; done) | (simp; omega)) _ | with_reducible refine Below.setCell ?_ (by first | omega | (simp; done) | (simp; omega)) _ | with_reducible refine below_setRow ?_ (by first | omega | (simp; done) | (simp; omega)) _))
                  have P5 : w5.heap[w4.heap.size]? = some (.cells #[.int .u64 (kx.1 / 2), .int .u64 kx.2.1, .int .i64 kx.2.2] 33 (0, 0)) := by rw [hw5]; exact at_of (by apply Exists.intro; refine ⟨?_, ?_⟩; (focus ((repeat (first | (with_reducible assumption) | (with_reducible exact alloc_at _ _) | ((with_reducible apply alloc_at'); (simp; done)) | (with_reducible apply alloc_at_lt) | (with_reducible apply heap_drew_at) | (with_reducible apply heap_drewN_at) | (with_reducible apply heap_setCell_same) | ((with_reducible apply heap_set_ne); (first | omega | (dsimp only; omega) | (simp; done) | (simp; omega))) | (with_reducible apply setRow_at) | ((with_reducible apply setRow_ne); (first | omega | (dsimp only; omega) | (simp; done) | (simp; omega))))))); simp)
                  obtain ⟨p, hp⟩ : ∃ p, p = w4.heap.size := ⟨_, rfl⟩
                  have HPF : Hid (¬ FootV c v p) := by
                    rintro (e | e)
                    · have := HG4.out.heap.ltH; omega
                    · have := (HG4.out.heap.row.lt p e).2; omega
                  rw [← hp] at P5 ⊢
                  have HB5 := hid (HB4.out.trans (b5.mono HB4.out.size))
                  have HG5 : Hid (GoS c w5 v s least m) := ⟨HG4.out.heap.below b5, HG4.out.good⟩
                  have hdec := dec_v HG5.out.heap HG5.out.good (kx.1 / 2, kx.2.1, kx.2.2) HTX.out HOK2.out (by rw [← HKX.out]; exact HNLE.out)
                  obtain ⟨K, hK⟩ : ∃ K : K3, K = (kx.1 / 2, kx.2.1, kx.2.2) := ⟨_, rfl⟩
                  have eK0 : kx.1 / 2 = K.1 := by rw [hK]
                  have eK1 : kx.2.1 = K.2.1 := by rw [hK]
                  have eK2 : kx.2.2 = K.2.2 := by rw [hK]
                  have HOK3 : Hid (okK K) := by rw [hK]; exact HOK2.out
                  rw [← hK] at hdec
                  rw [eK0, eK1, eK2] at P5
                  have HP5 := hid P5
                  have HDEC := hid hdec
                  have c0 : w5.cell? ⟨p, 0, none⟩ = some (.int .u64 K.1) := (blk_cell P5 0).trans rfl
                  have c1 : w5.cell? ⟨p, 1, none⟩ = some (.int .u64 K.2.1) := (blk_cell P5 1).trans rfl
                  have c2 : w5.cell? ⟨p, 2, none⟩ = some (.int .i64 K.2.2) := (blk_cell P5 2).trans rfl
                  clear hw5 b5 P5 hp hdec HG4 HB4 hK eK0 eK1 eK2 jn0 HOK2 HNLE
                  go_wp2_with fail
                  refine HDEC.out.mono ?_
                  rintro e w6 ⟨rfl, s6, least6, h6, g6, sk6, t6⟩
                  have hb6 := t6.below HG5.out.heap.le HG5.out.heap.foot
                  have HB6 := hid (HB5.out.trans (hb6.mono Z.out))
                  have HP6 := hid ((t6.kept p (lt_of_at HP5.out) HPF.out).trans HP5.out)
                  have hx6 : s6.th xn = true := by rw [sk6.2.2]; exact HTX.out
                  have hk6 : s6.key xn = K := by rw [sk6.2.1]; exact up_same _ _ _
                  obtain ⟨y, ty, hyx, hmin⟩ := min_v h6 g6 hx6
                  have oky := (g6.ok ty).1
                  have hcm : compI (s6.key y) K ≤ 0 := by
                    rw [← hk6]
                    rcases hyx with rfl | hl
                    · rw [comp_self oky]; exact Int.le_refl _
                    · exact (comp_le oky (by rw [hk6]; exact HOK3.out) hl).1
                  have hgy : ∀ W, Below w6.heap.size w6 W → Calls Try.prog 16 #[.pointer (some ⟨c, 0, none⟩), .int .i64 y] W fun e w' => e = .returned (.tuple #[.agg #[.int .u64 (s6.key y).1, .int .u64 (s6.key y).2.1, .int .i64 (s6.key y).2.2], .int .i64 0]) ∧ Below W.heap.size W w' := fun W hb => get_v (h6.below hb) g6 ty
                  obtain ⟨ky, hky⟩ : ∃ ky, ky = s6.key y := ⟨_, rfl⟩
                  rw [← hky] at hmin oky hcm hgy
                  have HMIN := hid hmin
                  have HYW := hid oky.wd
                  have HKW := hid HOK3.out.wd
                  have HCM := hid hcm
                  have HGY := hid hgy
                  have HG6 : Hid (GoS c w6 v s6 least6 m) := ⟨h6, g6⟩
                  clear hb6 h6 g6 sk6 t6 hx6 hk6 hyx hmin oky hcm hgy hky ty HDEC HG5 HB5 HP5 c0 c1 c2 HKX HTX
                  go_wp2_with fail
                  refine HMIN.out.mono ?_
                  rintro e w7 ⟨rfl, hb7⟩
                  have HB7 := hid (HB6.out.trans (hb7.mono HB6.out.size))
                  have HP7 := hid (below_at hb7 (lt_of_at HP6.out) HP6.out)
                  have HB67 := hid hb7
                  clear hb7 HB6 HP6 HMIN
                  go_upto_region 22 with (fail)
                  refine wp_name ?_
                  intro w8 hw8
                  have b8 : Below w7.heap.size w7 w8 := by rw [hw8]; exact (by repeat (first | with_reducible assumption | with_reducible exact Below.refl _ _ | with_reducible refine Below.drew ?_ | with_reducible refine below_drewN ?_ _ | with_reducible refine below_alloc ?_ _ | with_reducible refine Below.alloc ?_ (by first | omega | (simp; done) | (simp; omega)) _ | with_reducible refine Below.setCell ?_ (by first | omega | (simp; done) | (simp; omega)) _ | with_reducible refine below_setRow ?_ (by first | omega | (simp; done) | (simp; omega)) _))
                  have X8 : w8.heap[w7.heap.size]? = some (.cells #[.int .u64 ky.1, .int .u64 ky.2.1, .int .i64 ky.2.2] 33 (0, 0)) := by rw [hw8]; exact at_of (by apply Exists.intro; refine ⟨?_, ?_⟩; (focus ((repeat (first | (with_reducible assumption) | (with_reducible exact alloc_at _ _) | ((with_reducible apply alloc_at'); (simp; done)) | (with_reducible apply alloc_at_lt) | (with_reducible apply heap_drew_at) | (with_reducible apply heap_drewN_at) | (with_reducible apply heap_setCell_same) | ((with_reducible apply heap_set_ne); (first | omega | (dsimp only; omega) | (simp; done) | (simp; omega))) | (with_reducible apply setRow_at) | ((with_reducible apply setRow_ne); (first | omega | (dsimp only; omega) | (simp; done) | (simp; omega))))))); simp)
                  have HP8 := hid (below_at b8 (lt_of_at HP7.out) HP7.out)
                  have HB8 := hid (HB7.out.trans (b8.mono HB7.out.size))
                  have HB68 := hid (HB67.out.trans (b8.mono HB67.out.size))
                  have hne2 : p ≠ w7.heap.size := by have := lt_of_at HP7.out; omega
                  obtain ⟨p2, hp2⟩ : ∃ p2, p2 = w7.heap.size := ⟨_, rfl⟩
                  rw [← hp2] at X8 hne2 ⊢
                  have HX8 := hid X8
                  clear hw8 b8 X8 hp2 HP7 HB7 HB67
                  go_region_held3 (fun w' => w'.cell? ⟨p2, 0, none⟩ = some (.int .u64 ky.1) ∧ w'.cell? ⟨p2, 1, none⟩ = some (.int .u64 ky.2.1) ∧ w'.cell? ⟨p2, 2, none⟩ = some (.int .i64 ky.2.2) ∧ w'.cell? ⟨p, 0, none⟩ = some (.int .u64 K.1) ∧ w'.cell? ⟨p, 1, none⟩ = some (.int .u64 K.2.1) ∧ w'.cell? ⟨p, 2, none⟩ = some (.int .i64 K.2.2)) (((try go_split_ands); (try dsimp only); refine keepKK HX8.out HP8.out ?_; (repeat (first | with_reducible assumption | with_reducible exact Below.refl _ _ | with_reducible refine Below.drew ?_ | with_reducible refine below_drewN ?_ _ | with_reducible refine below_alloc ?_ _ | with_reducible refine Below.alloc ?_ (by first | omega | (simp; done) | (simp; omega)) _ | with_reducible refine Below.setCell ?_ (by first | omega | (simp; done) | (simp; omega)) _ | with_reducible refine below_setRow ?_ (by first | omega | (simp; done) | (simp; omega)) _)))) (first | (go_at_call 13; have Q91 := D91; refine (plain_g _ _ _ _).mono ?_; rintro e w92 ⟨rfl, b92⟩; have D92 : Below w8.heap.size w8 w92 := Below.trans (by repeat (first | with_reducible assumption | with_reducible exact Below.refl _ _ | with_reducible refine Below.drew ?_ | with_reducible refine below_drewN ?_ _ | with_reducible refine below_alloc ?_ _ | with_reducible refine Below.alloc ?_ (by first | omega | (simp; done) | (simp; omega)) _ | with_reducible refine Below.setCell ?_ (by first | omega | (simp; done) | (simp; omega)) _ | with_reducible refine below_setRow ?_ (by first | omega | (simp; done) | (simp; omega)) _)) (b92.mono (Below.size (B := w8.heap.size) (w := w8) (by repeat (first | with_reducible assumption | with_reducible exact Below.refl _ _ | with_reducible refine Below.drew ?_ | with_reducible refine below_drewN ?_ _ | with_reducible refine below_alloc ?_ _ | with_reducible refine Below.alloc ?_ (by first | omega | (simp; done) | (simp; omega)) _ | with_reducible refine Below.setCell ?_ (by first | omega | (simp; done) | (simp; omega)) _ | with_reducible refine below_setRow ?_ (by first | omega | (simp; done) | (simp; omega)) _))))) | (go_at_call 13; refine (plain_g _ _ _ _).mono ?_; rintro e w91 ⟨rfl, b91⟩; have D91 : Below w8.heap.size w8 w91 := Below.trans (by repeat (first | with_reducible assumption | with_reducible exact Below.refl _ _ | with_reducible refine Below.drew ?_ | with_reducible refine below_drewN ?_ _ | with_reducible refine below_alloc ?_ _ | with_reducible refine Below.alloc ?_ (by first | omega | (simp; done) | (simp; omega)) _ | with_reducible refine Below.setCell ?_ (by first | omega | (simp; done) | (simp; omega)) _ | with_reducible refine below_setRow ?_ (by first | omega | (simp; done) | (simp; omega)) _)) (b91.mono (Below.size (B := w8.heap.size) (w := w8) (by repeat (first | with_reducible assumption | with_reducible exact Below.refl _ _ | with_reducible refine Below.drew ?_ | with_reducible refine below_drewN ?_ _ | with_reducible refine below_alloc ?_ _ | with_reducible refine Below.alloc ?_ (by first | omega | (simp; done) | (simp; omega)) _ | with_reducible refine Below.setCell ?_ (by first | omega | (simp; done) | (simp; omega)) _ | with_reducible refine below_setRow ?_ (by first | omega | (simp; done) | (simp; omega)) _))))) | (go_at_call 12; refine (comp_g ky K _ HYW.out HKW.out).mono ?_; rintro e w93 ⟨rfl, b93⟩; have D93 : Below w8.heap.size w8 w93 := Below.trans (by repeat (first | with_reducible assumption | with_reducible exact Below.refl _ _ | with_reducible refine Below.drew ?_ | with_reducible refine below_drewN ?_ _ | with_reducible refine below_alloc ?_ _ | with_reducible refine Below.alloc ?_ (by first | omega | (simp; done) | (simp; omega)) _ | with_reducible refine Below.setCell ?_ (by first | omega | (simp; done) | (simp; omega)) _ | with_reducible refine below_setRow ?_ (by first | omega | (simp; done) | (simp; omega)) _)) (b93.mono (Below.size (B := w8.heap.size) (w := w8) (by repeat (first | with_reducible assumption | with_reducible exact Below.refl _ _ | with_reducible refine Below.drew ?_ | with_reducible refine below_drewN ?_ _ | with_reducible refine below_alloc ?_ _ | with_reducible refine Below.alloc ?_ (by first | omega | (simp; done) | (simp; omega)) _ | with_reducible refine Below.setCell ?_ (by first | omega | (simp; done) | (simp; omega)) _ | with_reducible refine below_setRow ?_ (by first | omega | (simp; done) | (simp; omega)) _))))))
                  all_goals
                    have HB9 := hid (HB8.out.trans (D93.mono HB8.out.size))
                    have HB69 := hid (HB68.out.trans (D93.mono HB68.out.size))
                    have HX9 := hid (below_at D93 (lt_of_at HX8.out) HX8.out)
                    have ec : ¬ (0 : Int) < compI ky K := by have := HCM.out; omega
                    generalize compI ky K = cc at ec ⊢
                    clear D91 D92 D93 b91 b92 b93 HB8 HB68 HX8 HP8
                    go_wp2_with fail
                    refine (HGY.out _ HB69.out).mono ?_
                    rintro e w10 ⟨rfl, hb10⟩
                    have X10 := below_at hb10 (lt_of_at HX9.out) HX9.out
                    have xl := lt_of_at X10
                    have x0 : w10.cell? ⟨p2, 0, none⟩ = some (.int .u64 ky.1) := (blk_cell X10 0).trans rfl
                    have x1 : w10.cell? ⟨p2, 1, none⟩ = some (.int .u64 ky.2.1) := (blk_cell X10 1).trans rfl
                    have x2 : w10.cell? ⟨p2, 2, none⟩ = some (.int .i64 ky.2.2) := (blk_cell X10 2).trans rfl
                    have HB10 := hid (HB9.out.trans (hb10.mono HB9.out.size))
                    have HG10 : Hid (∀ W, Below w10.heap.size w10 W → GoS c W v s6 least6 m) := fun W hb => ⟨(HG6.out.heap.below (HB69.out.trans (hb10.mono HB69.out.size))).below hb, HG6.out.good⟩
                    clear X10 hb10 HGY HG6
                    go_wp2
                    go_roundw
                    case rel => exact ⟨j + 1, v, s6, least6, m, HK1.out, by go_num, hid (HG10.out _ (by repeat (first | with_reducible assumption | with_reducible exact Below.refl _ _ | with_reducible refine Below.drew ?_ | with_reducible refine below_drewN ?_ _ | with_reducible refine below_alloc ?_ _ | with_reducible refine Below.alloc ?_ (by first | omega | (simp; done) | (simp; omega)) _ | with_reducible refine Below.setCell ?_ (by first | omega | (simp; done) | (simp; omega)) _ | with_reducible refine below_setRow ?_ (by first | omega | (simp; done) | (simp; omega)) _))), hid (HB10.out.trans (Below.mono (B := w10.heap.size) (w := w10) (by repeat (first | with_reducible assumption | with_reducible exact Below.refl _ _ | with_reducible refine Below.drew ?_ | with_reducible refine below_drewN ?_ _ | with_reducible refine below_alloc ?_ _ | with_reducible refine Below.alloc ?_ (by first | omega | (simp; done) | (simp; omega)) _ | with_reducible refine Below.setCell ?_ (by first | omega | (simp; done) | (simp; omega)) _ | with_reducible refine below_setRow ?_ (by first | omega | (simp; done) | (simp; omega)) _)) HB10.out.size))⟩
                    case measure => have := HMS.out; simp [intOf]; omega
                · have hgn := get_no (xn : Int) HG.out.heap (fun h => tx (by have := h.2.2; simpa using this))
                  have HGV := hid hgn
                  clear hgn tx
                  go_wp2_with fail
                  refine HGV.out.mono ?_
                  rintro e w4 ⟨rfl, hb4⟩
                  have HG4 : Hid (∀ W, Below w4.heap.size w4 W → GoS c W v s least m) := fun W hb => ⟨(HG.out.heap.below hb4).below hb, HG.out.good⟩
                  have HB4 := hid (HB.out.trans (hb4.mono HB.out.size))
                  clear hb4 HGV HG HB z0
                  go_wp2
                  go_roundw
                  case rel => exact ⟨j + 1, v, s, least, m, HK1.out, by go_num, hid (HG4.out _ (by repeat (first | with_reducible assumption | with_reducible exact Below.refl _ _ | with_reducible refine Below.drew ?_ | with_reducible refine below_drewN ?_ _ | with_reducible refine below_alloc ?_ _ | with_reducible refine Below.alloc ?_ (by first | omega | (simp; done) | (simp; omega)) _ | with_reducible refine Below.setCell ?_ (by first | omega | (simp; done) | (simp; omega)) _ | with_reducible refine below_setRow ?_ (by first | omega | (simp; done) | (simp; omega)) _))), hid (HB4.out.trans (Below.mono (B := w4.heap.size) (w := w4) (by repeat (first | with_reducible assumption | with_reducible exact Below.refl _ _ | with_reducible refine Below.drew ?_ | with_reducible refine below_drewN ?_ _ | with_reducible refine below_alloc ?_ _ | with_reducible refine Below.alloc ?_ (by first | omega | (simp; done) | (simp; omega)) _ | with_reducible refine Below.setCell ?_ (by first | omega | (simp; done) | (simp; omega)) _ | with_reducible refine below_setRow ?_ (by first | omega | (simp; done) | (simp; omega)) _)) HB4.out.size))⟩
                  case measure => have := HMS.out; simp [intOf]; omega
            · have hjn' : ¬ ((j : Int) < (n2 : Int)) := by omega
              clear hj hjn
              go_wp2
              go_ret
              exact ⟨rfl, HB.out⟩
    · have hni2 : (300 : Int) < (n2 : Int) := by omega
      go_wp2_with fail
      refine (awake_g w1).mono ?_
      rintro e w2 ⟨rfl, hb2⟩
      have B2 := B1.out.trans (hb2.mono B1.out.size)
      go_wp2
      go_ret
      exact ⟨rfl, B2⟩
  · have hni : (200 : Int) < (n : Int) := by omega
    go_wp2_with fail
    refine (awake_g w1).mono ?_
    rintro e w2 ⟨rfl, hb2⟩
    have B2 := B1.out.trans (hb2.mono B1.out.size)
    go_wp2
    go_ret
    exact ⟨rfl, B2⟩
end Go.Proofs.Ythdbiablpkeagaa
