/- The contract of math/bits.Div64, asked that the higher word is less than the divisor: the quotient of the two words and what is left. -/
import Derived.Test.YtbkopmgfkokmgaaProg
import Derived.Test.YtbkopmgfkokmgaaCls
import Derived.Test.YtbkopmgfkokmgaaLz
import Derived.Test.YtbkopmgfkokmgaaDivL
import Derived.Deep.DeepCutAuto
import Derived.Deep.CutBlock
namespace Go.Proofs.Ytbkopmgfkokmgaa
open Go.RowKit
set_option maxRecDepth 100000 in
set_option maxHeartbeats 2000000 in
theorem div_high (h l d : Int) (w : World) (h0 : 0 < h) (h1 : h < d) (d1 : d ≤ 18446744073709551615) (l0 : 0 ≤ l) (l1 : l ≤ 18446744073709551615) :
    Calls Try.prog 46 #[.int .u64 h, .int .u64 l, .int .u64 d] w fun e w' => e = .returned (.tuple #[.int .u64 ((h * 18446744073709551616 + l) / d), .int .u64 ((h * 18446744073709551616 + l) % d)]) ∧ w = w' := by
  have b0 : (d == 0) = false := by simp; omega
  have b1 : (h == 0) = false := by simp; omega
  obtain ⟨s, v, y1, y0, u, m, m1, m0, hs, hs64, e1, e2, e3, e4, e5, e6, e7, k1, k2, k3, k4, n1, n2, n3, n4, u0, u1, v1, hv, hvd, hN⟩ := div_parts h l d h0 h1 d1 l0 l1
  have DB1 : DigB u y1 y0 m1 := ⟨k1, k2, k3, k4, u0, by omega, n1, n2⟩
  obtain ⟨Q, hQ⟩ : ∃ x, (u * 4294967296 + m1) / (y1 * 4294967296 + y0) = x := ⟨_, rfl⟩
  obtain ⟨z, hz⟩ : ∃ x, (u * 4294967296 + m1) % (y1 * 4294967296 + y0) = x := ⟨_, rfl⟩
  have z0 : 0 ≤ z := by rw [← hz]; exact Int.emod_nonneg _ (by omega)
  have z1 : z < v := by rw [← hz, hv]; exact Int.emod_lt_of_pos _ (by omega)
  have Q0 : 0 ≤ Q := by rw [← hQ]; exact Int.ediv_nonneg (by omega) (by omega)
  have Q1 : Q ≤ 4294967295 := by
    have : Q < 4294967296 := by rw [← hQ]; exact Int.ediv_lt_of_lt_mul (by omega) (by omega)
    omega
  have hr1 := digit_rest DB1
  rw [hQ, hz, ← hv] at hr1
  have DB2 : DigB z y1 y0 m0 := ⟨k1, k2, k3, k4, z0, by omega, n3, n4⟩
  obtain ⟨R, hR⟩ : ∃ x, (z * 4294967296 + m0) / (y1 * 4294967296 + y0) = x := ⟨_, rfl⟩
  obtain ⟨t, ht⟩ : ∃ x, (z * 4294967296 + m0) % (y1 * 4294967296 + y0) = x := ⟨_, rfl⟩
  have t0 : 0 ≤ t := by rw [← ht]; exact Int.emod_nonneg _ (by omega)
  have t1 : t < v := by rw [← ht, hv]; exact Int.emod_lt_of_pos _ (by omega)
  have R0 : 0 ≤ R := by rw [← hR]; exact Int.ediv_nonneg (by omega) (by omega)
  have R1 : R ≤ 4294967295 := by
    have : R < 4294967296 := by rw [← hR]; exact Int.ediv_lt_of_lt_mul (by omega) (by omega)
    omega
  have hr2 := digit_rest DB2
  rw [hR, ht, ← hv] at hr2
  have hfin := div_fin hQ hz hR ht hv hvd hN (by omega) t0 t1
  have hQ1 := hid hQ
  have hQ2 := hid hR
  have HV := hid hv
  have HFIN := hid hfin
  have HR2 := hid hr2
  have HR1 := hid hr1
  clear hQ hz hR ht hv hvd hN hfin hr2 hr1
  go_enter Try.func46, Try.ntmps46
  go_wp2_with fail
  refine (Try.bits_LeadingZeros64 _ _ (by omega) (by omega)).mono ?_
  rintro e w1 ⟨rfl, rfl⟩
  rw [hs64]
  have D1 := digit_start DB1
  obtain ⟨a1, ha1⟩ : ∃ x, u / y1 = x := ⟨_, rfl⟩
  obtain ⟨c1, hc1⟩ : ∃ x, u % y1 = x := ⟨_, rfl⟩
  rw [ha1, hc1] at D1
  obtain ⟨ga1, gb1, gc1, gd1, ge1, -⟩ := id D1
  have gf1 : 0 ≤ a1 * y1 := Int.mul_nonneg ga1 (by omega)
  have gw1 : IntKind.u64.wrap (a1 * y1) = u - c1 := by rw [wrapU_in (by omega) (by omega)]; omega
  have GE1 := hid ge1
  clear ge1 hc1 gf1
  go_upto_block 0 with fail
  go_cut [15, 16] (fun a b wx => a = .int .u64 Q ∧ w1 = wx)
  case first =>
    go_wp2_with fail
    go_loop [15, 16] (fun a b => ∃ q r : Int, a = .int .u64 q ∧ b = .int .u64 r ∧ Digit u y1 y0 m1 q r) (fun a _ => (intOf a).toNat)
    case atStart => exact ⟨a1, c1, by go_num, by first | rfl | go_num, D1⟩
    case round =>
      clear D1 ga1 gb1 gc1 gd1 gw1 GE1 ha1
      obtain ⟨q, r, rfl, rfl, HD⟩ := hrel
      obtain ⟨q0, q1, r0, r1, -, -⟩ := id HD
      by_cases hA : 4294967296 ≤ q
      · have hg := digit_high DB1 HD hA
        have HG := hid hg
        clear hg
        by_cases hR : r + y1 ≤ 4294967295
        · go_wp2
          go_round
          case rel => exact ⟨q - 1, r + y1, by go_num, by go_num, digit_next DB1 HD HG.out hR⟩
          case measure => simp [intOf]; omega
        · go_wp2
          go_meet
          exact ⟨by rw [digit_break DB1 HD HG.out (by omega), hQ1.out]; try rfl, by first | rfl | trivial⟩
      · obtain ⟨p, hp⟩ : ∃ p, q * y0 = p := ⟨_, rfl⟩
        have p0 : 0 ≤ p := by rw [← hp]; exact Int.mul_nonneg q0 k3
        have p1 : p ≤ 4294967295 * 4294967295 := by rw [← hp]; exact Int.mul_le_mul (by omega) k4 k3 (by omega)
        have pw : IntKind.u64.wrap (q * y0) = p := by rw [hp, wrapU_in (by omega) (by omega)]
        have HP := hid hp
        clear hp
        by_cases hB : 4294967296 * r + m1 < p
        · have hg := digit_over DB1 HD (by rw [HP.out]; exact hB)
          have HG := hid hg
          clear hg
          have q2 : 1 ≤ q := by
            rcases Int.lt_or_le q 1 with h | h
            · exfalso
              have : q = 0 := by omega
              have h2 := HP.out
              rw [this, Int.zero_mul] at h2
              omega
            · exact h
          by_cases hR : r + y1 ≤ 4294967295
          · go_wp2
            go_round
            case rel => exact ⟨q - 1, r + y1, by go_num, by go_num, digit_next DB1 HD HG.out hR⟩
            case measure => simp [intOf]; omega
          · go_wp2
            go_meet
            exact ⟨by rw [digit_break DB1 HD HG.out (by omega), hQ1.out]; try rfl, by first | rfl | trivial⟩
        · go_wp2
          go_meet
          exact ⟨by rw [digit_done DB1 HD (by omega) (by rw [HP.out]; omega), hQ1.out]; try rfl, by first | rfl | trivial⟩
  case rest =>
    obtain ⟨rfl, rfl⟩ := hcut
    clear D1 ga1 gb1 gc1 gd1 gw1 GE1 ha1
    have hr1 := HR1.out
    have D2 := digit_start DB2
    obtain ⟨a2, ha2⟩ : ∃ x, z / y1 = x := ⟨_, rfl⟩
    obtain ⟨c2, hc2⟩ : ∃ x, z % y1 = x := ⟨_, rfl⟩
    rw [ha2, hc2] at D2
    obtain ⟨ga2, gb2, gc2, gd2, ge2, -⟩ := id D2
    have gf2 : 0 ≤ a2 * y1 := Int.mul_nonneg ga2 (by omega)
    have gw2 : IntKind.u64.wrap (a2 * y1) = z - c2 := by rw [wrapU_in (by omega) (by omega)]; omega
    have GE2 := hid ge2
    clear ge2 hc2 gf2
    go_upto_block 2 with fail
    go_cut [18, 16] (fun a b wx => a = .int .u64 R ∧ w1 = wx)
    case first =>
      go_wp2_with fail
      go_loop [18, 16] (fun a b => ∃ q r : Int, a = .int .u64 q ∧ b = .int .u64 r ∧ Digit z y1 y0 m0 q r) (fun a _ => (intOf a).toNat)
      case atStart => exact ⟨a2, c2, by go_num, by first | rfl | go_num, D2⟩
      case round =>
        clear D2 ga2 gb2 gc2 gd2 gw2 GE2 ha2
        obtain ⟨q, r, rfl, rfl, HD⟩ := hrel
        obtain ⟨q0, q1, r0, r1, -, -⟩ := id HD
        by_cases hA : 4294967296 ≤ q
        · have hg := digit_high DB2 HD hA
          have HG := hid hg
          clear hg
          by_cases hR : r + y1 ≤ 4294967295
          · go_wp2
            go_round
            case rel => exact ⟨q - 1, r + y1, by go_num, by go_num, digit_next DB2 HD HG.out hR⟩
            case measure => simp [intOf]; omega
          · go_wp2
            go_meet
            exact ⟨by rw [digit_break DB2 HD HG.out (by omega), hQ2.out]; try rfl, by first | rfl | trivial⟩
        · obtain ⟨p, hp⟩ : ∃ p, q * y0 = p := ⟨_, rfl⟩
          have p0 : 0 ≤ p := by rw [← hp]; exact Int.mul_nonneg q0 k3
          have p1 : p ≤ 4294967295 * 4294967295 := by rw [← hp]; exact Int.mul_le_mul (by omega) k4 k3 (by omega)
          have pw : IntKind.u64.wrap (q * y0) = p := by rw [hp, wrapU_in (by omega) (by omega)]
          have HP := hid hp
          clear hp
          by_cases hB : 4294967296 * r + m0 < p
          · have hg := digit_over DB2 HD (by rw [HP.out]; exact hB)
            have HG := hid hg
            clear hg
            have q2 : 1 ≤ q := by
              rcases Int.lt_or_le q 1 with h | h
              · exfalso
                have : q = 0 := by omega
                have h2 := HP.out
                rw [this, Int.zero_mul] at h2
                omega
              · exact h
            by_cases hR : r + y1 ≤ 4294967295
            · go_wp2
              go_round
              case rel => exact ⟨q - 1, r + y1, by go_num, by go_num, digit_next DB2 HD HG.out hR⟩
              case measure => simp [intOf]; omega
            · go_wp2
              go_meet
              exact ⟨by rw [digit_break DB2 HD HG.out (by omega), hQ2.out]; try rfl, by first | rfl | trivial⟩
          · go_wp2
            go_meet
            exact ⟨by rw [digit_done DB2 HD (by omega) (by rw [HP.out]; omega), hQ2.out]; try rfl, by first | rfl | trivial⟩
    case rest =>
      obtain ⟨rfl, rfl⟩ := hcut
      clear D2 ga2 gb2 gc2 gd2 gw2 GE2 ha2
      have hr2 := HR2.out
      clear hr1
      go_wp2
      go_ret2
      exact ⟨by rw [HFIN.out.1, HFIN.out.2]; try rfl, rfl⟩
theorem div_any (h l d : Int) (w : World) (h0 : 0 ≤ h) (h1 : h < d) (d1 : d ≤ 18446744073709551615) (l0 : 0 ≤ l) (l1 : l ≤ 18446744073709551615) :
    Calls Try.prog 46 #[.int .u64 h, .int .u64 l, .int .u64 d] w fun e w' => e = .returned (.tuple #[.int .u64 ((h * 18446744073709551616 + l) / d), .int .u64 ((h * 18446744073709551616 + l) % d)]) ∧ Below w.heap.size w w' := by
  by_cases hz : h = 0
  · subst hz
    rw [Int.zero_mul, Int.zero_add]
    have b0 : (d == 0) = false := by simp; omega
    have b3 := Int.ediv_nonneg l0 (show 0 ≤ d by omega)
    have b4 := Int.ediv_le_self d l0
    have b5 := Int.emod_nonneg l (show d ≠ 0 by omega)
    have b6 := Int.emod_lt_of_pos l h1
    go_enter Try.func46, Try.ntmps46
    go_wp2
    go_quiet (fail)
    go_wp2
    go_ret2
    exact ⟨rfl, (by repeat (first | with_reducible assumption | with_reducible exact Below.refl _ _ | with_reducible refine Below.drew ?_ | with_reducible refine below_drewN ?_ _ | with_reducible refine below_alloc ?_ _ | with_reducible refine Below.alloc ?_ (by first | omega | (simp; done) | (simp; omega)) _ | with_reducible refine Below.setCell ?_ (by first | omega | (simp; done) | (simp; omega)) _ | with_reducible refine below_setRow ?_ (by first | omega | (simp; done) | (simp; omega)) _))⟩
  · exact (div_high h l d w (by omega) h1 d1 l0 l1).mono fun e w' ⟨he, hw⟩ => ⟨he, hw ▸ Below.refl _ _⟩
end Go.Proofs.Ytbkopmgfkokmgaa
