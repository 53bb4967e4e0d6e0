/- FibMelds' walk. -/
import Derived.Test.YthdbiablpkeagaaWFibM
namespace Go.Proofs.Ythdbiablpkeagaa
open Go.RowKit
theorem m1_start {B X Y Z : Nat} {w : World} (hx : HeapV B w X (.slice none 0 0) hp0 0 0) (hy : HeapV B w Y (.slice none 0 0) hp0 0 0) (hz : HeapV B w Z (.slice none 0 0) hp0 0 0) (xy : X ≠ Y) (xz : X ≠ Z) (yz : Y ≠ Z) : M1 B w X Y Z 0 := by
  have hap : ∀ {a b : Nat}, a ≠ b → Ap a (.slice none 0 0) b (.slice none 0 0) := fun {a b} hab i hi hj => by
    rcases hi with rfl | hi
    · rcases hj with e | e
      · exact hab e
      · cases e
    · cases hi
  exact ⟨_, _, hp0, hp0, 0, 0, ⟨hx, good0, hy, good0, hz, good0, hap xy, hap xz, hap yz⟩, full0, full0, fun i hi => by omega⟩
theorem stoodK : Try.prog.stoodInHeld 33 = false := by kernel_rfl
theorem stoodR : Try.prog.stoodInHeld 31 = false := by kernel_rfl
theorem eqU (d : Nat) (a b : Int) (w : World) : (Op.equalIn (d + 1) 29 (.int .u64 a) (.int .u64 b)).run Try.prog w = .ok (a == b) w := by
  rw [Op.equalIn]
  simp only [Sem.run_bind, run_underlying Try.underlying29, Result.andThen_ok]
  simp
theorem eqT (d : Nat) (a b : Int) (w : World) : (Op.equalIn (d + 1) 2 (.int .i64 a) (.int .i64 b)).run Try.prog w = .ok (a == b) w := by
  rw [Op.equalIn]
  simp only [Sem.run_bind, run_underlying Try.underlying2, Result.andThen_ok]
  simp
theorem aggU (w : World) : (isAgg 29).run Try.prog w = .ok false w := by kernel_rfl
theorem aggT (w : World) : (isAgg 2).run Try.prog w = .ok false w := by kernel_rfl
theorem partU (cs : Array Value) (o : Nat) (w : World) : (part 29 cs o).run Try.prog w = (match cs[o]? with | some v => (pure v : Sem Value) | none => stuck "part: no such cell").run Try.prog w := by
  simp only [part, Sem.run_bind, aggU, Result.andThen_ok]
  rfl
theorem partT (cs : Array Value) (o : Nat) (w : World) : (part 2 cs o).run Try.prog w = (match cs[o]? with | some v => (pure v : Sem Value) | none => stuck "part: no such cell").run Try.prog w := by
  simp only [part, Sem.run_bind, aggT, Result.andThen_ok]
  rfl
theorem partR (cs : Array Value) (o : Nat) (w : World) : (part 31 cs o).run Try.prog w = .ok (.agg (cs.extract o (o + 2))) w := by
  simp [part, Sem.run_bind, Result.andThen_ok]
theorem eqR (d : Nat) (a b : Int) (w : World) : (Op.equalIn (d + 1 + 1) 31 (.agg #[.int .u64 a, .int .u64 b]) (.agg #[.int .u64 a, .int .u64 b])).run Try.prog w = .ok true w := by
  rw [Op.equalIn]
  simp only [Sem.run_bind, run_underlying Try.underlying31, Result.andThen_ok, run_program, stoodR]
  simp [partU, eqU, Sem.run_bind]
theorem eqKt (a b c : Int) : ∀ w : World, (Op.equalIn 10000 33 (.agg #[.int .u64 a, .int .u64 b, .int .i64 c]) (.agg #[.int .u64 a, .int .u64 b, .int .i64 c])).run Try.prog w = .ok true w := fun w => by
  have key : ∀ d, (Op.equalIn (d + 1 + 1 + 1) 33 (.agg #[.int .u64 a, .int .u64 b, .int .i64 c]) (.agg #[.int .u64 a, .int .u64 b, .int .i64 c])).run Try.prog w = .ok true w := fun d => by
    rw [Op.equalIn]
    simp only [Sem.run_bind, run_underlying Try.underlying33, Result.andThen_ok, run_program, stoodK]
    simp [partR, partT, eqR, eqT, Sem.run_bind]
  exact key 9997
set_option maxRecDepth 100000 in
set_option maxHeartbeats 8000000 in
theorem fibMelds_any (A A' : Option Addr) (n cap n' cap' : Nat) (la lb : List K3) (w : World) (hs : SlK w A n la) (hs' : SlK w A' n' lb) (hn : n ≤ maxLen) (hn' : n' ≤ maxLen) :
    Calls Try.prog 4 #[.slice A n cap, .slice A' n' cap'] w fun e w' => e = .returned (.bool true) ∧ Below w.heap.size w w' := by
  have HS := hid hs
  have HS' := hid hs'
  have HNM := hid (And.intro hn hn')
  clear hs hs' hn hn'
  go_enter Try.func4, Try.ntmps4
  go_wp2_with fail
  refine (awake_g w).mono ?_
  rintro e w1 ⟨rfl, hb1⟩
  have B1 := hid hb1
  clear hb1
  by_cases hn : n ≤ 300
  · have hni : ¬ (300 : Int) < (n : Int) := by omega
    by_cases hn' : n' ≤ 300
    · have hni' : ¬ (300 : Int) < (n' : Int) := by omega
      have HN : Hid (n ≤ 300 ∧ n' ≤ 300) := ⟨hn, hn'⟩
      go_wp2_with fail
      refine (newh_g w1.heap.size w1 (Nat.le_refl _)).mono ?_
      rintro e w2 ⟨rfl, hb2, h2⟩
      go_wp2_with fail
      refine (newh_g w1.heap.size w2 hb2.size).mono ?_
      rintro e w3 ⟨rfl, hb3, h3⟩
      go_wp2_with fail
      refine (newh_g w1.heap.size w3 (Nat.le_trans hb2.size hb3.size)).mono ?_
      rintro e w4 ⟨rfl, hb4, h4⟩
      have l2 := h2.ltH
      have l3 := h3.ltH
      have hX := (h2.below hb3).below hb4
      have hY := h3.below hb4
      have HM : Hid (M1 w1.heap.size w4 w1.heap.size w2.heap.size w3.heap.size 0) := m1_start hX hY h4 (by omega) (by have := hb3.size; omega) (by omega)
      have B4 := hid (B1.out.trans (((hb2.trans (hb3.mono hb2.size)).trans (hb4.mono (Nat.le_trans hb2.size hb3.size))).mono B1.out.size))
      obtain ⟨c, hc⟩ : ∃ c, c = w1.heap.size := ⟨_, rfl⟩
      obtain ⟨Y, hYe⟩ : ∃ Y, Y = w2.heap.size := ⟨_, rfl⟩
      obtain ⟨Z, hZe⟩ : ∃ Z, Z = w3.heap.size := ⟨_, rfl⟩
      have HZW : Hid (w.heap.size ≤ c) := by rw [hc]; exact B1.out.size
      rw [← hc, ← hYe, ← hZe] at HM
      rw [← hc, ← hYe, ← hZe]
      clear hb2 h2 hb3 h3 hb4 h4 l2 l3 hX hY hc hYe hZe B1 w1 w2 w3
      go_wp2_with fail
      go_loopw [8, 9] (fun qv iv wr => ∃ (i q : Nat), i ≤ n ∧ q ≤ i ∧ qv = .int .i64 q ∧ iv = .int .i64 i ∧ Hid (M1 c wr c Y Z q) ∧ Hid (Below w.heap.size w wr)) (fun _ iv _ => n - (intOf iv).toNat)
      case atStart => exact ⟨0, 0, Nat.zero_le _, Nat.le_refl _, rfl, rfl, HM, B4⟩
      case round =>
        clear HM B4
        obtain ⟨i, q, hi, hq, rfl, rfl, HM, HB⟩ := hrel
        by_cases hin : i < n
        · have HK1 : Hid (i + 1 ≤ n) := hin
          have HMS : Hid (n - (i + 1) < n - i) := by unfold Hid; omega
          have hii : (i : Int) < (n : Int) := by omega
          have hib : (i : Int) ≤ 1000 := by omega
          have hqb : (q : Int) ≤ 1000 := by omega
          have HQ1 : Hid (q ≤ i) := hq
          obtain ⟨x, b, off, -, hw, -, rfl, z0, z1, z2, hbl⟩ := HS.out.one HB.out hin
          obtain ⟨k0, k1, k2⟩ := x
          simp only at z0 z1 z2
          have hbc : b < c := Nat.lt_of_lt_of_le hbl HZW.out
          have hbr : b < wr.heap.size := Nat.lt_of_lt_of_le hbl HB.out.size
          clear hi hq hin hn hni hn' hni'
          by_cases hk : k1 = 0
          · subst hk
            obtain ⟨vx, vz, sx, sz, lx, lz, t1, rest⟩ := HM.out
            have HT := hid t1
            have HRS := hid rest
            clear t1 rest
            go_wp2_with fail
            refine (ins_bad HT.out.hx k0 k2).mono ?_
            rintro e w5 ⟨rfl, hb5⟩
            have y0 := (hb5.cell (p := ⟨b, off + i * 3, none⟩) hbr).trans z0
            have y1 := (hb5.cell (p := ⟨b, off + i * 3 + 1, none⟩) hbr).trans z1
            have y2 := (hb5.cell (p := ⟨b, off + i * 3 + 2, none⟩) hbr).trans z2
            have HB5 := hid hb5
            clear z0 z1 z2 hb5
            go_wp2_with fail
            refine (ins_bad (HT.out.hz.below HB5.out) k0 k2).mono ?_
            rintro e w6 ⟨rfl, hb6⟩
            have b56 := HB5.out.trans (hb6.mono HB5.out.size)
            have HM6 := hid (HM.out.below b56)
            have HB6 := hid (HB.out.trans (b56.mono HB.out.size))
            clear hb6 b56 y0 y1 y2
            go_wp2
            go_roundw
            case rel => exact ⟨i + 1, q, HK1.out, by have := HQ1.out; omega, rfl, by go_num, HM6, HB6⟩
            case measure => have := HMS.out; simp [intOf]; omega
          · have hkp : 0 < k1 := by have := hw.2.2.1; simp only at this; omega
            have hins := HM.out.ins (k0, k1, k2) ⟨⟨hw.1, hw.2.1, hw.2.2.2⟩, hkp⟩ (by omega)
            simp only at hins
            have HINS := hid hins
            clear hins hk hw
            go_wp2_with fail
            refine HINS.out.mono ?_
            rintro e w5 ⟨rfl, hb5, hins2⟩
            have y0 := (hb5.cell (p := ⟨b, off + i * 3, none⟩) hbc).trans z0
            have y1 := (hb5.cell (p := ⟨b, off + i * 3 + 1, none⟩) hbc).trans z1
            have y2 := (hb5.cell (p := ⟨b, off + i * 3 + 2, none⟩) hbc).trans z2
            have HB5 := hid (HB.out.trans (hb5.mono HZW.out))
            have HINS2 := hid hins2
            clear z0 z1 z2 hb5 HINS hins2
            go_wp2_with fail
            refine HINS2.out.mono ?_
            rintro e w6 ⟨rfl, hb6, hm6⟩
            have HM6 := hid hm6
            have HB6 := hid (HB5.out.trans (hb6.mono HZW.out))
            clear hb6 hm6 y0 y1 y2 HINS2
            go_wp2
            go_roundw
            case rel => exact ⟨i + 1, q + 1, HK1.out, by have := HQ1.out; omega, by go_num, by go_num, HM6, HB6⟩
            case measure => have := HMS.out; simp [intOf]; omega
        · obtain rfl : i = n := by omega
          have hqb : q ≤ 300 := by omega
          have hqi : (q : Int) ≤ 300 := by omega
          have HQ300 := hid hqb
          have HM2 := hid HM.out.to2
          clear hin hi hq hni HM
          go_wp2_with fail
          go_loopw [12] (fun iv wr => ∃ (i r : Nat), i ≤ n' ∧ r ≤ i ∧ iv = .int .i64 i ∧ Hid (M2 c wr c Y Z q r) ∧ Hid (Below w.heap.size w wr)) (fun iv _ => n' - (intOf iv).toNat)
          case atStart => exact ⟨0, 0, Nat.zero_le _, Nat.le_refl _, rfl, HM2, HB⟩
          case round =>
            clear HM2 HB
            obtain ⟨i, r, hi, hr, rfl, HM, HB⟩ := hrel
            by_cases hin : i < n'
            · have HK1 : Hid (i + 1 ≤ n') := hin
              have HMS : Hid (n' - (i + 1) < n' - i) := by unfold Hid; omega
              have hii : (i : Int) < (n' : Int) := by omega
              have hib : (i : Int) ≤ 1000 := by omega
              have HR1 : Hid (r ≤ i) := hr
              have hrb : (r : Int) ≤ 1000 := by omega
              obtain ⟨x, b, off, -, hw, -, rfl, z0, z1, z2, hbl⟩ := HS'.out.one HB.out hin
              obtain ⟨k0, k1, k2⟩ := x
              simp only at z0 z1 z2
              have hbc : b < c := Nat.lt_of_lt_of_le hbl HZW.out
              have hbr : b < wr.heap.size := Nat.lt_of_lt_of_le hbl HB.out.size
              clear hi hr hin hn hn' hni'
              by_cases hk : k1 = 0
              · subst hk
                obtain ⟨vx, vy, vz, sx, sy, sz, lx, ly, lz, t1, rest⟩ := HM.out
                have HT := hid t1
                have HRS := hid rest
                clear t1 rest
                go_wp2_with fail
                refine (ins_bad HT.out.hy k0 k2).mono ?_
                rintro e w5 ⟨rfl, hb5⟩
                have y0 := (hb5.cell (p := ⟨b, off + i * 3, none⟩) hbr).trans z0
                have y1 := (hb5.cell (p := ⟨b, off + i * 3 + 1, none⟩) hbr).trans z1
                have y2 := (hb5.cell (p := ⟨b, off + i * 3 + 2, none⟩) hbr).trans z2
                have HB5 := hid hb5
                clear z0 z1 z2 hb5
                go_wp2_with fail
                refine (ins_bad (HT.out.hz.below HB5.out) k0 k2).mono ?_
                rintro e w6 ⟨rfl, hb6⟩
                have b56 := HB5.out.trans (hb6.mono HB5.out.size)
                have HM6 := hid (HM.out.below b56)
                have HB6 := hid (HB.out.trans (b56.mono HB.out.size))
                clear hb6 b56 y0 y1 y2
                go_wp2
                go_roundw
                case rel => exact ⟨i + 1, r, HK1.out, by have := HR1.out; omega, by go_num, HM6, HB6⟩
                case measure => have := HMS.out; simp [intOf]; omega
              · have hkp : 0 < k1 := by have := hw.2.2.1; simp only at this; omega
                have hins := HM.out.ins (k0, k1, k2) ⟨⟨hw.1, hw.2.1, hw.2.2.2⟩, hkp⟩ (by omega)
                simp only at hins
                have HINS := hid hins
                clear hins hk hw
                go_wp2_with fail
                refine HINS.out.mono ?_
                rintro e w5 ⟨rfl, hb5, hins2⟩
                have y0 := (hb5.cell (p := ⟨b, off + i * 3, none⟩) hbc).trans z0
                have y1 := (hb5.cell (p := ⟨b, off + i * 3 + 1, none⟩) hbc).trans z1
                have y2 := (hb5.cell (p := ⟨b, off + i * 3 + 2, none⟩) hbc).trans z2
                have HB5 := hid (HB.out.trans (hb5.mono HZW.out))
                have HINS2 := hid hins2
                clear z0 z1 z2 hb5 HINS hins2
                go_wp2_with fail
                refine HINS2.out.mono ?_
                rintro e w6 ⟨rfl, hb6, hm6⟩
                have HM6 := hid hm6
                have HB6 := hid (HB5.out.trans (hb6.mono HZW.out))
                clear hb6 hm6 y0 y1 y2 HINS2
                go_wp2
                go_roundw
                case rel => exact ⟨i + 1, r + 1, HK1.out, by have := HR1.out; omega, by go_num, HM6, HB6⟩
                case measure => have := HMS.out; simp [intOf]; omega
            · obtain rfl : i = n' := by omega
              have hrb : r ≤ 300 := by omega
              have HMELD := hid (HM.out.meld (by omega))
              have hqri : (q : Int) + (r : Int) ≤ 600 := by omega
              have HR300 := hid hrb
              clear hin hi hr hn hn' hni' hrb hqb
              go_wp2_with fail
              refine HMELD.out.mono ?_
              rintro e w5 ⟨rfl, hb5, m5, y5, keep5⟩
              have HB5 := hid (HB.out.trans (hb5.mono HZW.out))
              have HY5 := hid y5
              have HL5 := hid (m5.len w5 (Below.refl _ _))
              have HKEEP := hid keep5
              have HCLE := hid m5.le
              clear hb5 m5 y5 keep5 HM HMELD HB
              go_wp2_with fail
              refine (len_g HY5.out).mono ?_
              rintro e w6 ⟨rfl, rfl⟩
              go_wp2_with fail
              refine HL5.out.1.mono ?_
              rintro e w6 ⟨rfl, rfl⟩
              go_wp2_with fail
              refine HL5.out.2.mono ?_
              rintro e w6 ⟨rfl, rfl⟩
              go_upto_region 22 with (fail)
              refine wp_name ?_
              intro w6 hw6
              have b6 : Below w5.heap.size w5 w6 := by rw [hw6]; exact (by repeat (first | with_reducible assumption | with_reducible exact Below.refl _ _ | with_reducible refine Below.drew ?_ | with_reducible refine below_drewN ?_ _ | with_reducible refine below_alloc ?_ _ | with_reducible refine Below.alloc ?_ (by first | omega | (simp; done) | (simp; omega)) _ | with_reducible refine Below.setCell ?_ (by first | omega | (simp; done) | (simp; omega)) _ | with_reducible refine below_setRow ?_ (by first | omega | (simp; done) | (simp; omega)) _))
              have K6 : w6.heap[w5.heap.size]? = some (.cells #[.int .u64 0, .int .u64 1, .int .i64 0] 33 (0, 0)) := by rw [hw6]; exact at_of (by apply Exists.intro; refine ⟨?_, ?_⟩; (focus ((repeat (first | (with_reducible assumption) | (with_reducible exact alloc_at _ _) | ((with_reducible apply alloc_at'); (simp; done)) | (with_reducible apply alloc_at_lt) | (with_reducible apply heap_drew_at) | (with_reducible apply heap_drewN_at) | (with_reducible apply heap_setCell_same) | ((with_reducible apply heap_set_ne); (first | omega | (dsimp only; omega) | (simp; done) | (simp; omega))) | (with_reducible apply setRow_at) | ((with_reducible apply setRow_ne); (first | omega | (dsimp only; omega) | (simp; done) | (simp; omega))))))); simp)
              have c0 : w6.cell? ⟨w5.heap.size, 0, none⟩ = some (.int .u64 0) := (blk_cell K6 0).trans rfl
              have c1 : w6.cell? ⟨w5.heap.size, 1, none⟩ = some (.int .u64 1) := (blk_cell K6 1).trans rfl
              have c2 : w6.cell? ⟨w5.heap.size, 2, none⟩ = some (.int .i64 0) := (blk_cell K6 2).trans rfl
              have HY6 := hid (HY5.out.below b6)
              have hins := insert_ok (0, 1, 0) HY6.out good0 ⟨⟨by decide, by decide, by decide⟩, by decide⟩ (by decide)
              simp only [hp0] at hins
              have HINS := hid hins
              have HB6 := hid (HB5.out.trans (b6.mono HB5.out.size))
              have HT6 : Hid (Tur (FootV Y (.slice none 0 0)) w5 w6) := Tur.of_below b6
              clear hw6 b6 K6 hins HL5
              go_wp2_with fail
              refine HINS.out.mono ?_
              rintro e w7 ⟨rfl, v7, s7, l7, -, -, -, -, t7⟩
              have HM7 := hid (HKEEP.out w7 (HT6.out.then t7))
              have HB7 := hid (HB6.out.trans ((t7.below HY6.out.le HY6.out.foot).mono HZW.out))
              clear t7 c0 c1 c2 HINS HKEEP HT6 HB6 HB5 HY5 HY6
              go_wp2_with fail
              have HL7 := hid (HM7.out.len w7 (Below.refl _ _)).2
              refine HL7.out.mono ?_
              rintro e w8 ⟨rfl, rfl⟩
              obtain ⟨N0, hN0⟩ : ∃ N0, N0 = q + r := ⟨_, rfl⟩
              rw [← hN0] at HM7 ⊢
              have hNb : N0 ≤ 600 := by omega
              have HNB := hid hNb
              clear hN0 HL7 hNb hqri hqi
              go_wp2_with fail
              go_loopw [18] (fun iv wr => ∃ (j : Nat) (z : Int), j ≤ N0 + 1 ∧ iv = .int .i64 z ∧ Hid (z + 1 = (j : Int)) ∧ Hid (M3 c wr c Z (j - 1)) ∧ Hid (Below w.heap.size w wr)) (fun iv _ => (intOf iv + 1).toNat)
              case atStart => exact ⟨N0 + 1, N0, Nat.le_refl _, rfl, by unfold Hid; omega, by simpa using HM7, HB7⟩
              case round =>
                clear HM7 HB7
                obtain ⟨j, z, hj, rfl, HZ, HM, HB⟩ := hrel
                cases j with
                | zero =>
                  have ez : z = -1 := by have := HZ.out; omega
                  subst ez
                  clear hj
                  go_wp2
                  go_ret
                  exact ⟨rfl, HB.out⟩
                | succ k =>
                  have ez : z = (k : Int) := by have := HZ.out; omega
                  subst ez
                  have hkb : (k : Int) ≤ 1000 := by have := HNB.out; omega
                  have HK1 : Hid (k ≤ N0 + 1) := by unfold Hid; omega
                  have HME := HM
                  rw [Nat.add_sub_cancel] at HME
                  have HE := eqKt
                  clear hj HZ HM
                  cases k with
                  | zero =>
                    have hpo := HME.out.popn
                    unfold keyV at hpo
                    have HPO := hid hpo
                    clear hpo
                    go_wp2_with fail
                    refine HPO.out.mono ?_
                    rintro e w8 ⟨rfl, hb8, hp2⟩
                    have HP2 := hid hp2
                    have HB8 := hid (HB.out.trans (hb8.mono HB.out.size))
                    have HB8' := hid hb8
                    clear hb8 hp2
                    go_upto_region 29 with (fail)
                    refine wp_name ?_
                    intro w9 hw9
                    have b9 : Below w8.heap.size w8 w9 := by rw [hw9]; exact (by repeat (first | with_reducible assumption | with_reducible exact Below.refl _ _ | with_reducible refine Below.drew ?_ | with_reducible refine below_drewN ?_ _ | with_reducible refine below_alloc ?_ _ | with_reducible refine Below.alloc ?_ (by first | omega | (simp; done) | (simp; omega)) _ | with_reducible refine Below.setCell ?_ (by first | omega | (simp; done) | (simp; omega)) _ | with_reducible refine below_setRow ?_ (by first | omega | (simp; done) | (simp; omega)) _))
                    have K9 : w9.heap[w8.heap.size]? = some (.cells #[.int .u64 0, .int .u64 0, .int .i64 0] 33 (0, 0)) := by rw [hw9]; exact at_of (by apply Exists.intro; refine ⟨?_, ?_⟩; (focus ((repeat (first | (with_reducible assumption) | (with_reducible exact alloc_at _ _) | ((with_reducible apply alloc_at'); (simp; done)) | (with_reducible apply alloc_at_lt) | (with_reducible apply heap_drew_at) | (with_reducible apply heap_drewN_at) | (with_reducible apply heap_setCell_same) | ((with_reducible apply heap_set_ne); (first | omega | (dsimp only; omega) | (simp; done) | (simp; omega))) | (with_reducible apply setRow_at) | ((with_reducible apply setRow_ne); (first | omega | (dsimp only; omega) | (simp; done) | (simp; omega))))))); simp)
                    have HB9 := hid (HB8.out.trans (b9.mono HB8.out.size))
                    have HP3 := hid (HP2.out w9 b9)
                    have HB9' := hid (HB8'.out.trans (b9.mono HB8'.out.size))
                    obtain ⟨pk, hpk⟩ : ∃ pk, pk = w8.heap.size := ⟨_, rfl⟩
                    rw [← hpk] at K9 ⊢
                    have HK9 := hid K9
                    clear hw9 b9 K9 hpk HP2 HB8 HPO
                    go_wp2_with fail
                    refine HP3.out.mono ?_
                    rintro e w10 ⟨rfl, hb10⟩
                    have K10 := below_at hb10 (lt_of_at HK9.out) HK9.out
                    have q0 : w10.cell? ⟨pk, 0, none⟩ = some (.int .u64 0) := (blk_cell K10 0).trans rfl
                    have q1 : w10.cell? ⟨pk, 1, none⟩ = some (.int .u64 0) := (blk_cell K10 1).trans rfl
                    have q2 : w10.cell? ⟨pk, 2, none⟩ = some (.int .i64 0) := (blk_cell K10 2).trans rfl
                    have hlk := lt_of_at K10
                    have HB10 := hid (HB9.out.trans (hb10.mono HB9.out.size))
                    have HM10 := hid (HME.out.below (HB9'.out.trans (hb10.mono HB9'.out.size)))
                    have HF : Hid (∀ W, Below w10.heap.size w10 W → M3 c W c Z 0 ∧ Below w.heap.size w W) := fun W hW => ⟨HM10.out.below hW, HB10.out.trans (hW.mono HB10.out.size)⟩
                    clear hb10 K10 HP3
                    go_wp2
                    go_roundw
                    case rel => exact ⟨0, -1, Nat.zero_le _, rfl, by unfold Hid; omega, hid (HF.out _ (by repeat (first | with_reducible assumption | with_reducible exact Below.refl _ _ | with_reducible refine Below.drew ?_ | with_reducible refine below_drewN ?_ _ | with_reducible refine below_alloc ?_ _ | with_reducible refine Below.alloc ?_ (by first | omega | (simp; done) | (simp; omega)) _ | with_reducible refine Below.setCell ?_ (by first | omega | (simp; done) | (simp; omega)) _ | with_reducible refine below_setRow ?_ (by first | omega | (simp; done) | (simp; omega)) _))).1, hid (HF.out _ (by repeat (first | with_reducible assumption | with_reducible exact Below.refl _ _ | with_reducible refine Below.drew ?_ | with_reducible refine below_drewN ?_ _ | with_reducible refine below_alloc ?_ _ | with_reducible refine Below.alloc ?_ (by first | omega | (simp; done) | (simp; omega)) _ | with_reducible refine Below.setCell ?_ (by first | omega | (simp; done) | (simp; omega)) _ | with_reducible refine below_setRow ?_ (by first | omega | (simp; done) | (simp; omega)) _))).2⟩
                    case measure => simp [intOf]
                  | succ i =>
                    obtain ⟨x, ⟨k0, k1, k2⟩, hpo⟩ := HME.out.pop
                    unfold keyV at hpo
                    simp only at hpo
                    have HPO := hid hpo
                    clear hpo
                    go_wp2_with fail
                    refine HPO.out.mono ?_
                    rintro e w8 ⟨rfl, hb8, hp2⟩
                    have HP2 := hid hp2
                    have HB8 := hid (HB.out.trans (hb8.mono HZW.out))
                    clear hb8 hp2
                    go_upto_region 29 with (fail)
                    refine wp_name ?_
                    intro w9 hw9
                    have b9 : Below w8.heap.size w8 w9 := by rw [hw9]; exact (by repeat (first | with_reducible assumption | with_reducible exact Below.refl _ _ | with_reducible refine Below.drew ?_ | with_reducible refine below_drewN ?_ _ | with_reducible refine below_alloc ?_ _ | with_reducible refine Below.alloc ?_ (by first | omega | (simp; done) | (simp; omega)) _ | with_reducible refine Below.setCell ?_ (by first | omega | (simp; done) | (simp; omega)) _ | with_reducible refine below_setRow ?_ (by first | omega | (simp; done) | (simp; omega)) _))
                    have K9 : w9.heap[w8.heap.size]? = some (.cells #[.int .u64 k0, .int .u64 k1, .int .i64 k2] 33 (0, 0)) := by rw [hw9]; exact at_of (by apply Exists.intro; refine ⟨?_, ?_⟩; (focus ((repeat (first | (with_reducible assumption) | (with_reducible exact alloc_at _ _) | ((with_reducible apply alloc_at'); (simp; done)) | (with_reducible apply alloc_at_lt) | (with_reducible apply heap_drew_at) | (with_reducible apply heap_drewN_at) | (with_reducible apply heap_setCell_same) | ((with_reducible apply heap_set_ne); (first | omega | (dsimp only; omega) | (simp; done) | (simp; omega))) | (with_reducible apply setRow_at) | ((with_reducible apply setRow_ne); (first | omega | (dsimp only; omega) | (simp; done) | (simp; omega))))))); simp)
                    have HB9 := hid (HB8.out.trans (b9.mono HB8.out.size))
                    have HP3 := hid (HP2.out w9 b9)
                    obtain ⟨pk, hpk⟩ : ∃ pk, pk = w8.heap.size := ⟨_, rfl⟩
                    have hpk2 : w8.heap.size ≤ pk := by omega
                    have hpk3 : pk < w9.heap.size := by rw [hpk]; exact lt_of_at K9
                    have HPK := hid (And.intro hpk2 hpk3)
                    rw [← hpk] at K9 ⊢
                    have HK9 := hid K9
                    clear hw9 b9 K9 hpk HP2 HB8 HPO hpk2 hpk3
                    go_wp2_with fail
                    refine HP3.out.mono ?_
                    rintro e w10 ⟨rfl, hb10, hm10, hk10⟩
                    have K10 := (hk10 pk HPK.out.1 HPK.out.2).trans HK9.out
                    have q0 : w10.cell? ⟨pk, 0, none⟩ = some (.int .u64 k0) := (blk_cell K10 0).trans rfl
                    have q1 : w10.cell? ⟨pk, 1, none⟩ = some (.int .u64 k1) := (blk_cell K10 1).trans rfl
                    have q2 : w10.cell? ⟨pk, 2, none⟩ = some (.int .i64 k2) := (blk_cell K10 2).trans rfl
                    have hlk := lt_of_at K10
                    have HB10 := hid (HB9.out.trans (hb10.mono HZW.out))
                    have HM10 := hid hm10
                    have HF : Hid (∀ W, Below w10.heap.size w10 W → M3 c W c Z i ∧ Below w.heap.size w W) := fun W hW => ⟨HM10.out.below hW, HB10.out.trans (hW.mono HB10.out.size)⟩
                    clear hb10 hm10 hk10 K10 HP3 HPK
                    go_wp2
                    go_roundw
                    case rel => exact ⟨i + 1, i, by have := HK1.out; omega, by go_num, by unfold Hid; omega, hid (HF.out _ (by repeat (first | with_reducible assumption | with_reducible exact Below.refl _ _ | with_reducible refine Below.drew ?_ | with_reducible refine below_drewN ?_ _ | with_reducible refine below_alloc ?_ _ | with_reducible refine Below.alloc ?_ (by first | omega | (simp; done) | (simp; omega)) _ | with_reducible refine Below.setCell ?_ (by first | omega | (simp; done) | (simp; omega)) _ | with_reducible refine below_setRow ?_ (by first | omega | (simp; done) | (simp; omega)) _))).1, hid (HF.out _ (by repeat (first | with_reducible assumption | with_reducible exact Below.refl _ _ | with_reducible refine Below.drew ?_ | with_reducible refine below_drewN ?_ _ | with_reducible refine below_alloc ?_ _ | with_reducible refine Below.alloc ?_ (by first | omega | (simp; done) | (simp; omega)) _ | with_reducible refine Below.setCell ?_ (by first | omega | (simp; done) | (simp; omega)) _ | with_reducible refine below_setRow ?_ (by first | omega | (simp; done) | (simp; omega)) _))).2⟩
                    case measure => simp [intOf]; omega
    · have hni' : (300 : Int) < (n' : Int) := by omega
      go_wp2_with fail
      refine (awake_g w1).mono ?_
      rintro e w2 ⟨rfl, hb2⟩
      have B2 := B1.out.trans (hb2.mono B1.out.size)
      go_wp2
      go_ret
      exact ⟨rfl, B2⟩
  · have hni : (300 : Int) < (n : Int) := by omega
    go_wp2_with fail
    refine (awake_g w1).mono ?_
    rintro e w2 ⟨rfl, hb2⟩
    have B2 := B1.out.trans (hb2.mono B1.out.size)
    go_wp2
    go_ret
    exact ⟨rfl, B2⟩
end Go.Proofs.Ythdbiablpkeagaa
