/- Chapter 15: First, the program's and the reference's; place. -/
import Derived.Test.YteccpjijlkjneaaShX
namespace Go.Proofs.Yteccpjijlkjneaa
open Go.RowKit Go.WideShapes
variable {B n cap : Nat} {w w' wr : World} {A : Option Addr} {ks am : List (List UInt8)} {v : Value}
def fstA (ks am : List (List UInt8)) : List UInt8 × Int := match ks.find? (fun k => am.contains k) with
  | some k => (k, 0)
  | none => ([], 3)
def fstV (z : Int) (ks am : List (List UInt8)) : List UInt8 × Int := if z ≠ 0 then ([], z) else fstA ks am
theorem fst_none (h : ∀ k ∈ ks, k ∉ am) : fstA ks am = ([], 3) := by
  unfold fstA
  rw [List.find?_eq_none.2 fun k hk => by simpa using h k hk]
theorem fst_hit {i : Nat} (hi : i < ks.length) (h : ∀ j (hj : j < ks.length), j < i → ks[j] ∉ am) (hm : ks[i] ∈ am) : fstA ks am = (ks[i], 0) := by
  unfold fstA
  have : ks.find? (fun k => am.contains k) = some ks[i] := by
    rw [List.find?_eq_some_iff_getElem]
    exact ⟨by simpa using hm, i, hi, rfl, fun j hj => by simpa using h j (by omega) hj⟩
  rw [this]
theorem cont_any (h : SlN w A n am) (hn : n ≤ 1000000) (cap : Nat) (x : ByteArray) : Calls Try.prog 29 #[.slice A n cap, .string x] w fun e w' => e = .returned (.bool (decide (ky x ∈ am))) ∧ w = w' := by
  obtain ⟨h1, h2⟩ := h
  by_cases h0 : n = 0
  · subst h0
    obtain rfl : am = [] := List.eq_nil_of_length_eq_zero h1.symm
    refine (Any.slices_Contains_string_empty Try.lays110 A cap x w).mono ?_
    rintro e w' ⟨rfl, rfl⟩
    exact ⟨by simp, rfl⟩
  · rcases h2 with rfl | ⟨b, off, rfl, hl, hc⟩
    · exact absurd h1 h0
    · refine (Any.slices_Contains_string Try.lays110 b off n cap (am.map bsK) x w (by simp; omega) (by omega) (fun j hj => ?_)).mono ?_
      · have hj2 : j < am.length := by simpa using hj
        rw [hc j hj2]
        simp [hj2]
      · rintro e w' ⟨rfl, rfl⟩
        refine ⟨?_, rfl⟩
        have : Go.Lib.containsS ((am.map bsK).take n) x = decide (ky x ∈ am) := by
          rw [List.take_of_length_le (by simp; omega), Bool.eq_iff_iff, Go.Lib.containsS_iff, decide_eq_true_eq]
          constructor
          · intro hx
            obtain ⟨k, hk, rfl⟩ := List.mem_map.1 hx
            exact hk
          · intro hx
            exact List.mem_map.2 ⟨ky x, hx, rfl⟩
        rw [this]
set_option maxRecDepth 100000 in
set_option maxHeartbeats 8000000 in
theorem first_any {A2 : Option Addr} {n2 cap2 : Nat} {l : List Us} (W : V4) (ha : SlN w A n am) (hn : n ≤ 1000) (h : SlU w A2 n2 l) (hn2 : n2 ≤ 1000) :
    Calls Try.prog 15 #[.agg (vI W), .slice A n cap, .slice A2 n2 cap2] w fun e w' => (∃ ks, OutK W l ks ∧ e = .returned (.tuple #[.string (bsK (fstV (errO W l) ks am).1), .int .i64 (fstV (errO W l) ks am).2])) ∧ Below w.heap.size w w' := by
  have HOR : Hid (∀ X, Below w.heap.size w X → Calls Try.prog 9 #[.agg (vI W), .slice A2 n2 cap2] X fun e w' => (∃ ks A c, e = .returned (.tuple #[.slice A ks.length c, .int .i64 (errO W l)]) ∧ OutK W l ks ∧ SlN w' A ks.length ks) ∧ Below X.heap.size X w') := fun X hb => (order_q W (h.below hb) hn2 cap2).mono fun e w' ⟨⟨ks, A, c, h1, h2, h3, h4⟩, hb⟩ => ⟨⟨ks, A, c, h1, h2, h3⟩, hb⟩
  have HAM := hid ha
  have HN := hid hn
  have HKL : Hid (∀ ks, OutK W l ks → ks.length ≤ 1000) := fun ks hk => by have := hk.len; have := h.1; omega
  obtain ⟨Wa, Wb, Wc, Wd⟩ := W
  obtain ⟨W, hW⟩ : ∃ W : V4, W = (Wa, Wb, Wc, Wd) := ⟨_, rfl⟩
  rw [← hW] at HOR HKL ⊢
  have hvI : vI W = #[.int .i64 Wa, .int .i64 Wb, .int .i64 Wc, .int .i64 Wd] := by rw [hW]
  rw [hvI] at HOR ⊢
  obtain ⟨z, hz⟩ : ∃ z, z = errO W l := ⟨_, rfl⟩
  rw [← hz] at HOR ⊢
  clear h hn hn2 ha hW hz
  go_enter Try.func15, Try.ntmps15
  go_upto_region 1 with (fail)
  refine wp_name ?_
  intro w1 hw1
  have b1 : Below w.heap.size w w1 := by rw [hw1]; exact (by repeat (first | with_reducible assumption | with_reducible exact Below.refl _ _ | with_reducible refine Below.drew ?_ | with_reducible refine below_drewN ?_ _ | with_reducible refine below_alloc ?_ _ | with_reducible refine Below.alloc ?_ (by first | omega | (simp; done) | (simp; omega)) _ | with_reducible refine Below.setCell ?_ (by first | omega | (simp; done) | (simp; omega)) _ | with_reducible refine below_setRow ?_ (by first | omega | (simp; done) | (simp; omega)) _))
  have X1 : w1.heap[w.heap.size]? = some (.cells #[.int .i64 Wa, .int .i64 Wb, .int .i64 Wc, .int .i64 Wd] 23 (0, 0)) := by rw [hw1]; exact at_of (by apply Exists.intro; refine ⟨?_, ?_⟩; (focus ((repeat (first | (with_reducible assumption) | (with_reducible exact alloc_at _ _) | ((with_reducible apply alloc_at'); (simp; done)) | (with_reducible apply alloc_at_lt) | (with_reducible apply heap_drew_at) | (with_reducible apply heap_drewN_at) | (with_reducible apply heap_setCell_same) | ((with_reducible apply heap_set_ne); (first | omega | (dsimp only; omega) | (simp; done) | (simp; omega))) | (with_reducible apply setRow_at) | ((with_reducible apply setRow_ne); (first | omega | (dsimp only; omega) | (simp; done) | (simp; omega))))))); simp)
  obtain ⟨bw, hbw⟩ : ∃ x, x = w.heap.size := ⟨_, rfl⟩
  rw [← hbw] at X1 ⊢
  obtain ⟨y0, y1, y2, y3, -⟩ := four X1
  have hl1 := lt_of_at X1
  have B1 := hid b1
  clear hw1 b1 hbw X1
  go_wp2_with fail
  refine (HOR.out _ B1.out).mono ?_
  rintro e w2 ⟨⟨ks, A3, c3, rfl, hk, hs⟩, hb2⟩
  have B2 := hid (B1.out.trans (hb2.mono B1.out.size))
  have HK := hid hk
  have HS := hid hs
  have hkl := HKL.out ks hk
  have hkb : (ks.length : Int) ≤ 1000 := by omega
  clear hb2 hk hs B1 HOR HKL y0 y1 y2 y3 hl1
  by_cases hz0 : z = 0
  case neg =>
    have hz1 : (z == 0) = false := by simpa using hz0
    have hz2 : (z != 0) = true := by simpa using hz0
    have F : Hid (fstV z ks am = ([], z)) := if_pos hz0
    clear hz0
    go_wp2
    go_ret2
    exact ⟨⟨ks, HK.out, by rw [F.out]; rfl⟩, B2.out⟩
  subst hz0
  have F : Hid (fstV 0 ks am = fstA ks am) := if_neg (by simp)
  obtain ⟨m, hm⟩ : ∃ m, m = ks.length := ⟨_, rfl⟩
  rw [← hm] at HS hkb ⊢
  have HM := hid hm
  have HI0 : Hid ((∀ j (hj : j < ks.length), j < 0 → ks[j] ∉ am) ∧ Below w2.heap.size w2 w2) := ⟨fun j _ h => by omega, Below.refl _ _⟩
  clear hkl hm
  go_wp2_with fail
  go_loopw [23] (fun iv wr => ∃ i : Nat, i ≤ m ∧ iv = .int .i64 i ∧ Hid ((∀ j (hj : j < ks.length), j < i → ks[j] ∉ am) ∧ Below w2.heap.size w2 wr)) (fun iv _ => m - (intOf iv).toNat)
  case atStart => exact ⟨0, Nat.zero_le _, rfl, HI0⟩
  case round =>
    clear HI0
    obtain ⟨i, hi, rfl, HI⟩ := hrel
    by_cases him : i < m
    · have HK1 : Hid (i + 1 ≤ m) := him
      have HMS : Hid (m - (i + 1) < m - i) := by unfold Hid; omega
      have hii : (i : Int) < (m : Int) := by omega
      obtain ⟨b, off, hik, rfl, hbl, c0⟩ := HS.out.one HI.out.2 him
      have HCO := hid (cont_any (HAM.out.below (B2.out.trans (HI.out.2.mono B2.out.size))) (by have := HN.out; omega) cap (bsK ks[i]))
      by_cases hin : ks[i] ∈ am
      · rw [show decide (ky (bsK ks[i]) ∈ am) = true from decide_eq_true hin] at HCO
        have FA : Hid (fstA ks am = (ks[i], 0)) := fst_hit hik HI.out.1 hin
        have FB := hid (B2.out.trans (HI.out.2.mono B2.out.size))
        clear hin hi him HI
        go_wp2_with fail
        refine HCO.out.mono ?_
        rintro e w3 ⟨rfl, rfl⟩
        go_wp2
        go_ret2
        exact ⟨⟨ks, HK.out, by rw [F.out, FA.out]; rfl⟩, FB.out⟩
      · rw [show decide (ky (bsK ks[i]) ∈ am) = false from decide_eq_false hin] at HCO
        have HI2 : Hid ((∀ j (hj : j < ks.length), j < i + 1 → ks[j] ∉ am) ∧ Below w2.heap.size w2 wr) := ⟨fun j hj h => by
          by_cases e : j = i
          · subst e; exact hin
          · exact HI.out.1 j hj (by omega), HI.out.2⟩
        clear hin hi him HI
        go_wp2_with fail
        refine HCO.out.mono ?_
        rintro e w3 ⟨rfl, rfl⟩
        go_wp2
        go_roundw
        case rel => exact ⟨i + 1, HK1.out, by go_num, HI2⟩
        case measure => have := HMS.out; simp [intOf]; omega
    · obtain rfl : i = m := by omega
      have hii : ¬ (i : Int) < (i : Int) := by omega
      have FA : Hid (fstA ks am = ([], 3)) := fst_none fun k hk => by
        obtain ⟨j, hj, rfl⟩ := List.mem_iff_getElem.1 hk
        exact HI.out.1 j hj (by have := HM.out; omega)
      have FB := hid (B2.out.trans (HI.out.2.mono B2.out.size))
      clear hi him HI
      go_wp2
      go_ret2
      exact ⟨⟨ks, HK.out, by rw [F.out, FA.out]; rfl⟩, FB.out⟩
set_option maxRecDepth 100000 in
set_option maxHeartbeats 8000000 in
theorem rfirst_any {A2 : Option Addr} {n2 cap2 : Nat} {l : List Us} (W : V4) (ha : SlN w A n am) (hn : n ≤ 1000) (h : SlU w A2 n2 l) (hn2 : n2 ≤ 1000) :
    Calls Try.prog 16 #[.agg (vI W), .slice A n cap, .slice A2 n2 cap2] w fun e w' => (∃ ks, OutK W l ks ∧ e = .returned (.tuple #[.string (bsK (fstV (errO W l) ks am).1), .int .i64 (fstV (errO W l) ks am).2])) ∧ Below w.heap.size w w' := by
  have HOR : Hid (∀ X, Below w.heap.size w X → Calls Try.prog 10 #[.agg (vI W), .slice A2 n2 cap2] X fun e w' => (∃ ks A c, e = .returned (.tuple #[.slice A ks.length c, .int .i64 (errO W l)]) ∧ OutK W l ks ∧ SlN w' A ks.length ks) ∧ Below X.heap.size X w') := fun X hb => (rorder_q W (h.below hb) hn2 cap2).mono fun e w' ⟨⟨ks, A, c, h1, h2, h3, h4⟩, hb⟩ => ⟨⟨ks, A, c, h1, h2, h3⟩, hb⟩
  have HAM := hid ha
  have HN := hid hn
  have hnb : (n : Int) ≤ 1000 := by omega
  have HKL : Hid (∀ ks, OutK W l ks → ks.length ≤ 1000) := fun ks hk => by have := hk.len; have := h.1; omega
  obtain ⟨Wa, Wb, Wc, Wd⟩ := W
  obtain ⟨W, hW⟩ : ∃ W : V4, W = (Wa, Wb, Wc, Wd) := ⟨_, rfl⟩
  rw [← hW] at HOR HKL ⊢
  have hvI : vI W = #[.int .i64 Wa, .int .i64 Wb, .int .i64 Wc, .int .i64 Wd] := by rw [hW]
  rw [hvI] at HOR ⊢
  obtain ⟨z, hz⟩ : ∃ z, z = errO W l := ⟨_, rfl⟩
  rw [← hz] at HOR ⊢
  clear h hn hn2 ha hW hz
  go_enter Try.func16, Try.ntmps16
  go_upto_region 1 with (fail)
  refine wp_name ?_
  intro w1 hw1
  have b1 : Below w.heap.size w w1 := by rw [hw1]; exact (by repeat (first | with_reducible assumption | with_reducible exact Below.refl _ _ | with_reducible refine Below.drew ?_ | with_reducible refine below_drewN ?_ _ | with_reducible refine below_alloc ?_ _ | with_reducible refine Below.alloc ?_ (by first | omega | (simp; done) | (simp; omega)) _ | with_reducible refine Below.setCell ?_ (by first | omega | (simp; done) | (simp; omega)) _ | with_reducible refine below_setRow ?_ (by first | omega | (simp; done) | (simp; omega)) _))
  have X1 : w1.heap[w.heap.size]? = some (.cells #[.int .i64 Wa, .int .i64 Wb, .int .i64 Wc, .int .i64 Wd] 23 (0, 0)) := by rw [hw1]; exact at_of (by apply Exists.intro; refine ⟨?_, ?_⟩; (focus ((repeat (first | (with_reducible assumption) | (with_reducible exact alloc_at _ _) | ((with_reducible apply alloc_at'); (simp; done)) | (with_reducible apply alloc_at_lt) | (with_reducible apply heap_drew_at) | (with_reducible apply heap_drewN_at) | (with_reducible apply heap_setCell_same) | ((with_reducible apply heap_set_ne); (first | omega | (dsimp only; omega) | (simp; done) | (simp; omega))) | (with_reducible apply setRow_at) | ((with_reducible apply setRow_ne); (first | omega | (dsimp only; omega) | (simp; done) | (simp; omega))))))); simp)
  obtain ⟨bw, hbw⟩ : ∃ x, x = w.heap.size := ⟨_, rfl⟩
  rw [← hbw] at X1 ⊢
  obtain ⟨y0, y1, y2, y3, -⟩ := four X1
  have hl1 := lt_of_at X1
  have B1 := hid b1
  clear hw1 b1 hbw X1
  go_wp2_with fail
  refine (HOR.out _ B1.out).mono ?_
  rintro e w2 ⟨⟨ks, A3, c3, rfl, hk, hs⟩, hb2⟩
  have B2 := hid (B1.out.trans (hb2.mono B1.out.size))
  have HK := hid hk
  have HS := hid hs
  have hkl := HKL.out ks hk
  have hkb : (ks.length : Int) ≤ 1000 := by omega
  clear hb2 hk hs B1 HOR HKL y0 y1 y2 y3 hl1
  by_cases hz0 : z = 0
  case neg =>
    have hz1 : (z == 0) = false := by simpa using hz0
    have hz2 : (z != 0) = true := by simpa using hz0
    have F : Hid (fstV z ks am = ([], z)) := if_pos hz0
    clear hz0
    go_wp2
    go_ret2
    exact ⟨⟨ks, HK.out, by rw [F.out]; rfl⟩, B2.out⟩
  subst hz0
  have F : Hid (fstV 0 ks am = fstA ks am) := if_neg (by simp)
  obtain ⟨m, hm⟩ : ∃ m, m = ks.length := ⟨_, rfl⟩
  rw [← hm] at HS hkb ⊢
  have HM := hid hm
  have HI0 : Hid ((∀ j (hj : j < ks.length), j < 0 → ks[j] ∉ am) ∧ Below w2.heap.size w2 w2) := ⟨fun j _ h => by omega, Below.refl _ _⟩
  clear hkl hm
  go_wp2_with fail
  go_loopw [10] (fun iv wr => ∃ i : Nat, i ≤ m ∧ iv = .int .i64 i ∧ Hid ((∀ j (hj : j < ks.length), j < i → ks[j] ∉ am) ∧ Below w2.heap.size w2 wr)) (fun iv _ => m - (intOf iv).toNat)
  case atStart => exact ⟨0, Nat.zero_le _, rfl, HI0⟩
  case round =>
    clear HI0
    obtain ⟨i, hi, rfl, HI⟩ := hrel
    by_cases him : i < m
    · have HK1 : Hid (i + 1 ≤ m) := him
      have HMS : Hid (m - (i + 1) < m - i) := by unfold Hid; omega
      have hii : (i : Int) < (m : Int) := by omega
      have HIM := hid him
      have HJ0 : Hid ((∀ j (hj : j < am.length), j < 0 → am[j] ≠ ks.getD i []) ∧ Below w2.heap.size w2 wr) := ⟨fun j _ h => by omega, HI.out.2⟩
      clear hi him
      rename World => wo
      go_wp2_with fail
      go_loopw [11] (fun jv wr => ∃ j : Nat, j ≤ n ∧ jv = .int .i64 j ∧ Hid ((∀ q (hq : q < am.length), q < j → am[q] ≠ ks.getD i []) ∧ Below w2.heap.size w2 wr)) (fun jv _ => n - (intOf jv).toNat)
      case atStart => exact ⟨0, Nat.zero_le _, rfl, HJ0⟩
      case round =>
        clear HJ0
        obtain ⟨j, hj, rfl, HJ⟩ := hrel
        obtain ⟨b, off, hik, rfl, hbl, c0⟩ := HS.out.one HJ.out.2 HIM.out
        by_cases hjn : j < n
        · have HJ1 : Hid (j + 1 ≤ n) := hjn
          have HMJ : Hid (n - (j + 1) < n - j) := by unfold Hid; omega
          have hjj : (j : Int) < (n : Int) := by omega
          obtain ⟨b2, off2, hjk, rfl, hbl2, d0⟩ := HAM.out.one (B2.out.trans (HJ.out.2.mono B2.out.size)) hjn
          have hgd : ks.getD i [] = ks[i] := by simp [hik]
          by_cases hq : am[j] = ks[i]
          · have FA : Hid (fstA ks am = (ks[i], 0)) := fst_hit hik HI.out.1 (by rw [← hq]; exact List.getElem_mem _)
            have FB : Hid (∀ X, Below wr.heap.size wr X → Below w.heap.size w X) := fun X hb => (B2.out.trans (HJ.out.2.mono B2.out.size)).trans (hb.mono (Nat.le_trans B2.out.size HJ.out.2.size))
            rw [hq] at d0
            have heq : ((bsK ks[i]).toList == (bsK ks[i]).toList) = true := by simp
            obtain ⟨s, hs⟩ : ∃ s, s = bsK ks[i] := ⟨_, rfl⟩
            rw [← hs] at c0 d0 heq
            have HSS := hid hs
            clear hq hjn hj HJ HI hgd hs
            go_upto_region 10 with (fail)
            go_quiet (fail)
            go_wp2
            go_ret2
            exact ⟨⟨ks, HK.out, by rw [F.out, FA.out]; show _ = Ending.returned (.tuple #[.string (bsK ks[i]), .int .i64 0]); rw [← HSS.out]; rfl⟩, FB.out _ (by repeat (first | with_reducible assumption | with_reducible exact Below.refl _ _ | with_reducible refine Below.drew ?_ | with_reducible refine below_drewN ?_ _ | with_reducible refine below_alloc ?_ _ | with_reducible refine Below.alloc ?_ (by first | omega | (simp; done) | (simp; omega)) _ | with_reducible refine Below.setCell ?_ (by first | omega | (simp; done) | (simp; omega)) _ | with_reducible refine below_setRow ?_ (by first | omega | (simp; done) | (simp; omega)) _))⟩
          · have heq : ((bsK ks[i]).toList == (bsK am[j]).toList) = false := by
              rw [beq_eq_false_iff_ne]
              intro e
              exact hq (by simpa [Go.Lib.toList_data] using e.symm)
            obtain ⟨s, hs⟩ : ∃ s, s = bsK ks[i] := ⟨_, rfl⟩
            obtain ⟨t, ht⟩ : ∃ s, s = bsK am[j] := ⟨_, rfl⟩
            rw [← hs] at c0 heq
            rw [← ht] at d0 heq
            have HJ2 : Hid (∀ X, Below wr.heap.size wr X → (∀ q (hq : q < am.length), q < j + 1 → am[q] ≠ ks.getD i []) ∧ Below w2.heap.size w2 X) := fun X hb => ⟨fun q hq2 h => by
              by_cases e : q = j
              · subst e; rw [hgd]; exact hq
              · exact HJ.out.1 q hq2 (by omega), HJ.out.2.trans (hb.mono HJ.out.2.size)⟩
            clear hq hjn hj HJ hgd hs ht
            go_upto_region 10 with (fail)
            go_quiet (fail)
            go_wp2
            go_roundw
            case rel => exact ⟨j + 1, HJ1.out, by go_num, HJ2.out _ (by repeat (first | with_reducible assumption | with_reducible exact Below.refl _ _ | with_reducible refine Below.drew ?_ | with_reducible refine below_drewN ?_ _ | with_reducible refine below_alloc ?_ _ | with_reducible refine Below.alloc ?_ (by first | omega | (simp; done) | (simp; omega)) _ | with_reducible refine Below.setCell ?_ (by first | omega | (simp; done) | (simp; omega)) _ | with_reducible refine below_setRow ?_ (by first | omega | (simp; done) | (simp; omega)) _))⟩
            case measure => have := HMJ.out; simp [intOf]; omega
        · obtain rfl : j = n := by omega
          have hjj : ¬ (j : Int) < (j : Int) := by omega
          have HI2 : Hid ((∀ q (hq : q < ks.length), q < i + 1 → ks[q] ∉ am) ∧ Below w2.heap.size w2 wr) := ⟨fun q hq h => by
            by_cases e : q = i
            · subst e
              intro hm
              obtain ⟨p, hp, e2⟩ := List.mem_iff_getElem.1 hm
              exact HJ.out.1 p hp (by have := HAM.out.1; omega) (by rw [e2]; simp [hq])
            · exact HI.out.1 q hq (by omega), HJ.out.2⟩
          clear hj hjn HJ HI c0 hbl
          go_wp2
          go_roundw
          case rel => exact ⟨i + 1, HK1.out, by go_num, HI2⟩
          case measure => have := HMS.out; simp [intOf]; omega
    · obtain rfl : i = m := by omega
      have hii : ¬ (i : Int) < (i : Int) := by omega
      have FA : Hid (fstA ks am = ([], 3)) := fst_none fun k hk => by
        obtain ⟨j, hj, rfl⟩ := List.mem_iff_getElem.1 hk
        exact HI.out.1 j hj (by have := HM.out; omega)
      have FB := hid (B2.out.trans (HI.out.2.mono B2.out.size))
      clear hi him HI
      go_wp2
      go_ret2
      exact ⟨⟨ks, HK.out, by rw [F.out, FA.out]; rfl⟩, FB.out⟩
/-- place. -/
theorem place_any (h : SlN w A n ks) (hn : n ≤ 1000) (cap : Nat) (x : ByteArray) : Calls Try.prog 13 #[.slice A n cap, .string x] w fun e w' => e = .returned (.int .i64 (if ky x ∈ ks then ((ks.idxOf (ky x) : Nat) : Int) else -1)) ∧ Below w.heap.size w w' := by
  have HS := hid h
  have hnb : (n : Int) ≤ 1000 := by omega
  obtain ⟨r, hr⟩ : ∃ r, r = (if ky x ∈ ks then ((ks.idxOf (ky x) : Nat) : Int) else -1) := ⟨_, rfl⟩
  have HR := hid hr
  rw [← hr]
  have HI0 : Hid (∀ j (hj : j < ks.length), j < 0 → ks[j] ≠ ky x) := fun j _ h => by omega
  clear h hn hr
  go_enter Try.func13, Try.ntmps13
  go_wp2_with fail
  go_loopw [5] (fun iv wr => ∃ i : Nat, i ≤ n ∧ iv = .int .i64 i ∧ Hid (∀ j (hj : j < ks.length), j < i → ks[j] ≠ ky x) ∧ Hid (Below w.heap.size w wr)) (fun iv _ => n - (intOf iv).toNat)
  case atStart => exact ⟨0, Nat.zero_le _, rfl, HI0, hid (Below.refl _ _)⟩
  case round =>
    clear HI0
    obtain ⟨i, hi, rfl, HI, HB⟩ := hrel
    by_cases hin : i < n
    · have HK1 : Hid (i + 1 ≤ n) := hin
      have HMS : Hid (n - (i + 1) < n - i) := by unfold Hid; omega
      have hii : (i : Int) < (n : Int) := by omega
      obtain ⟨b, off, hik, rfl, hbl, c0⟩ := HS.out.one HB.out hin
      by_cases hq : ks[i] = ky x
      · have F : r = (i : Int) := by
          have hm : ky x ∈ ks := by rw [← hq]; exact List.getElem_mem _
          rw [HR.out, if_pos hm]
          have h1 := List.idxOf_lt_length_of_mem hm
          have h2 : ks[ks.idxOf (ky x)] = ky x := List.getElem_idxOf h1
          have h3 : ks.idxOf (ky x) ≤ i := by
            rcases Nat.lt_or_ge i (ks.idxOf (ky x)) with q | q
            · exact absurd hq (by
                intro e
                exact absurd e (List.not_of_lt_findIdx (p := fun y => y == ky x) (xs := ks) (i := i) q |> fun h => by simpa using h))
            · exact q
          have h4 : ¬ ks.idxOf (ky x) < i := fun q => HI.out _ h1 q h2
          omega
        subst F
        have es : bsK ks[i] = x := ky_inj hq
        rw [es] at c0
        have heq : (x.toList == x.toList) = true := by simp
        clear hq hi hin HI es
        go_wp2
        go_ret
        exact ⟨rfl, HB.out⟩
      · have heq : ((bsK ks[i]).toList == x.toList) = false := by
          rw [beq_eq_false_iff_ne]
          intro e
          exact hq (by simpa [Go.Lib.toList_data] using e)
        obtain ⟨s, hs⟩ : ∃ s, s = bsK ks[i] := ⟨_, rfl⟩
        rw [← hs] at c0 heq
        have HI2 : Hid (∀ j (hj : j < ks.length), j < i + 1 → ks[j] ≠ ky x) := fun j hj h => by
          by_cases e : j = i
          · subst e; exact hq
          · exact HI.out j hj (by omega)
        clear hq hi hin HI hs
        go_wp2
        go_roundw
        case rel => exact ⟨i + 1, HK1.out, by go_num, HI2, HB⟩
        case measure => have := HMS.out; simp [intOf]; omega
    · obtain rfl : i = n := by omega
      have hii : ¬ (i : Int) < (i : Int) := by omega
      have F : r = -1 := by
        rw [HR.out, if_neg]
        intro hm
        obtain ⟨j, hj, e⟩ := List.mem_iff_getElem.1 hm
        exact HI.out j hj (by have := HS.out.1; omega) e
      subst F
      clear hi hin HI
      go_wp2
      go_ret
      exact ⟨rfl, HB.out⟩
end Go.Proofs.Yteccpjijlkjneaa
