/- ShareFirst's walk. -/
import Derived.Test.YteccpjijlkjneaaShF
import Derived.Test.YteccpjijlkjneaaWSt
namespace Go.Proofs.Yteccpjijlkjneaa
open Go.RowKit Go.WideShapes
/-- The order without one of them. -/
theorem rest_law {W : V4} {u : Us} {t s : List Us} (h : SrtO W (u :: t) s) (hnd : (nmK (u :: t)).Nodup) : ∃ s1 s2, s = s1 ++ u :: s2 ∧ SrtO W t (s1 ++ s2) ∧ (nmK s).idxOf (ky u.name) = s1.length := by
  have hm : u ∈ s := h.1.mem_iff.2 (by simp)
  obtain ⟨s1, s2, rfl⟩ := List.append_of_mem hm
  refine ⟨s1, s2, rfl, ⟨?_, ?_⟩, ?_⟩
  · have h1 := List.perm_middle.symm.trans h.1
    exact (List.perm_cons u).1 h1
  · have h2 := h.2
    rw [List.pairwise_append, List.pairwise_cons] at h2
    rw [List.pairwise_append]
    exact ⟨h2.1, h2.2.1.2, fun a ha b hb => h2.2.2 a ha b (List.mem_cons_of_mem _ hb)⟩
  · have hn2 : (nmK (s1 ++ u :: s2)).Nodup := by
      have hp : (nmK (s1 ++ u :: s2)).Perm (nmK (u :: t)) := h.1.map _
      exact hp.nodup_iff.2 hnd
    have e : nmK (s1 ++ u :: s2) = nmK s1 ++ ky u.name :: nmK s2 := by simp [nmK]
    rw [e] at hn2 ⊢
    obtain ⟨-, -, h3⟩ := List.nodup_append.1 hn2
    have hno : ky u.name ∉ nmK s1 := fun q => h3 _ q _ (by simp) rfl
    rw [List.idxOf_append, if_neg hno]
    simp [nmK]
theorem outK_rest {W : V4} {u : Us} {t : List Us} {ks ks' : List (List UInt8)} (h : OutK W (u :: t) ks) (h0 : errO W (u :: t) = 0) (h' : OutK W t ks') : errO W t = 0 ∧ ky u.name ∈ ks ∧ ks.length = ks'.length + 1 ∧ ∀ i, i < ks'.length → ks'[i]? = ks[if ks.idxOf (ky u.name) ≤ i then i + 1 else i]? := by
  have he := errO_zero.1 h0
  have h0' : errO W t = 0 := errO_zero.2 ⟨fun v hv => he.1 v (List.mem_cons_of_mem _ hv), by
    have := he.2
    rw [List.map_cons, List.nodup_cons] at this
    exact this.2⟩
  obtain ⟨h1, -⟩ | ⟨-, s, hs, rfl⟩ := h
  · exact absurd h0 h1
  · obtain ⟨s1, s2, rfl, hs2, hi⟩ := rest_law hs he.2
    have hk' : ks' = nmK (s1 ++ s2) := OutK.unique h' (.inr ⟨h0', _, hs2, rfl⟩)
    subst hk'
    refine ⟨h0', by simp [nmK], by simp [nmK]; omega, fun i hi2 => ?_⟩
    rw [hi]
    have e1 : nmK (s1 ++ u :: s2) = nmK s1 ++ ky u.name :: nmK s2 := by simp [nmK]
    have e2 : nmK (s1 ++ s2) = nmK s1 ++ nmK s2 := by simp [nmK]
    have e3 : s1.length = (nmK s1).length := by simp [nmK]
    rw [e1, e2, e3]
    by_cases q : (nmK s1).length ≤ i
    · rw [if_pos q, List.getElem?_append_right q, List.getElem?_append_right (by omega)]
      rw [show i + 1 - (nmK s1).length = (i - (nmK s1).length) + 1 by omega, List.getElem?_cons_succ]
    · rw [if_neg q, List.getElem?_append_left (by omega), List.getElem?_append_left (by omega)]
theorem outK_nodup {W : V4} {l : List Us} {ks : List (List UInt8)} (h : OutK W l ks) : ks.Nodup := by
  rcases h with ⟨-, rfl⟩ | ⟨h1, s, hs, rfl⟩
  · exact List.nodup_nil
  · exact (hs.1.map (fun u => ky u.name)).nodup_iff.2 (errO_zero.1 h1).2
theorem fst_drop {ks : List (List UInt8)} (hn : ks.Nodup) {i : Nat} (hi : i < ks.length) : fstA ks (ks.drop i) = (ks[i], 0) := by
  refine fst_hit hi (fun j hj hji hm => ?_) ?_
  · obtain ⟨p, hp, e⟩ := List.mem_iff_getElem.1 hm
    rw [List.getElem_drop] at e
    have := (List.getElem_inj hn).1 e
    omega
  · rw [List.drop_eq_getElem_cons hi]
    exact List.mem_cons_self
theorem SlN.tail {w : World} {b off n : Nat} {ks : List (List UInt8)} (h : SlN w (some ⟨b, off, none⟩) n ks) (hn : 0 < n) : SlN w (some ⟨b, off + 1, none⟩) (n - 1) ks.tail := by
  obtain ⟨h1, h2⟩ := h
  refine ⟨by rw [List.length_tail]; omega, ?_⟩
  rcases h2 with rfl | ⟨b', off', e, hl, hc⟩
  · left; rfl
  · injection e with e
    injection e with e1 e2
    subst e1 e2
    refine .inr ⟨b, _, rfl, hl, fun j hj => ?_⟩
    rw [List.length_tail] at hj
    have := hc (j + 1) (by omega)
    rw [show off + 1 + j = off + (j + 1) by omega, this, List.getElem_tail]
theorem row_capS {w : World} {b n z cap : Nat} {A : Option Addr} {T : TypeId} {xs : List Value} (h : w.ownsRow b T z (.slice A n cap) n xs) : n ≤ cap := by
  obtain ⟨-, ⟨h3, h4⟩ | ⟨g', cap', cur, h3, -, -, hle, -⟩⟩ := h
  · injection h3 with _ e1 e2; omega
  · injection h3 with _ e1 e2; omega
theorem order_c {w : World} {A : Option Addr} {n : Nat} {l : List Us} (W : V4) (h : SlU w A n l) (hn : n ≤ 1000) (cap : Nat) : Calls Try.prog 9 #[.agg (vI W), .slice A n cap] w fun e w' => (∃ ks A c, e = .returned (.tuple #[.slice A ks.length c, .int .i64 (errO W l)]) ∧ OutK W l ks ∧ SlN w' A ks.length ks ∧ ks.length ≤ c) ∧ Below w.heap.size w w' := by
  refine (order_any W h hn).mono ?_
  rintro e w' ⟨hp, hb⟩
  refine ⟨?_, hb⟩
  rcases hp with ⟨h1, rfl⟩ | ⟨h1, v, s, h2, rfl, hrow⟩
  · exact ⟨[], none, 0, rfl, .inl ⟨h1, rfl⟩, ⟨rfl, .inl rfl⟩, by simp⟩
  · obtain ⟨A, c, rfl⟩ := row_slice hrow
    have hl := row_len hrow
    rw [← hl] at hrow
    exact ⟨nmK s, A, c, by rw [h1, hl], .inr ⟨h1, s, h2, rfl⟩, SlN.of_row hrow, row_capS hrow⟩
set_option maxRecDepth 100000 in
set_option maxHeartbeats 16000000 in
theorem shareFirst_any (Wa Wb Wc Wd : Int) (A : Option Addr) (n cap : Nat) (l : List Us) (w : World) (h : SlU w A n l) (hn : n ≤ maxLen) (hc : n ≤ cap) :
    Calls Try.prog 7 #[.agg #[.int .i64 Wa, .int .i64 Wb, .int .i64 Wc, .int .i64 Wd], .slice A n cap] w fun e w' => e = .returned (.bool true) ∧ Below w.heap.size w w' := by
  have HS := hid h
  have hnb : (n : Int) ≤ 9223372036854775807 := by unfold maxLen at hn; omega
  have HC := hid hc
  clear h hn hc
  go_enter Try.func7, Try.ntmps7
  go_upto_region 1 with (fail)
  refine wp_name ?_
  intro w1 hw1
  have b1 : Below w.heap.size w w1 := by rw [hw1]; exact (by repeat (first | with_reducible assumption | with_reducible exact Below.refl _ _ | with_reducible refine Below.drew ?_ | with_reducible refine below_drewN ?_ _ | with_reducible refine below_alloc ?_ _ | with_reducible refine Below.alloc ?_ (by first | omega | (simp; done) | (simp; omega)) _ | with_reducible refine Below.setCell ?_ (by first | omega | (simp; done) | (simp; omega)) _ | with_reducible refine below_setRow ?_ (by first | omega | (simp; done) | (simp; omega)) _))
  have X1 : w1.heap[w.heap.size]? = some (.cells #[.int .i64 Wa, .int .i64 Wb, .int .i64 Wc, .int .i64 Wd] 23 (0, 0)) := by rw [hw1]; exact at_of (by apply Exists.intro; refine ⟨?_, ?_⟩; (focus ((repeat (first | (with_reducible assumption) | (with_reducible exact alloc_at _ _) | ((with_reducible apply alloc_at'); (simp; done)) | (with_reducible apply alloc_at_lt) | (with_reducible apply heap_drew_at) | (with_reducible apply heap_drewN_at) | (with_reducible apply heap_setCell_same) | ((with_reducible apply heap_set_ne); (first | omega | (dsimp only; omega) | (simp; done) | (simp; omega))) | (with_reducible apply setRow_at) | ((with_reducible apply setRow_ne); (first | omega | (dsimp only; omega) | (simp; done) | (simp; omega))))))); simp)
  obtain ⟨bw, hbw⟩ : ∃ x, x = w.heap.size := ⟨_, rfl⟩
  rw [← hbw] at X1 ⊢
  have HX1 := hid X1
  have B1 := hid b1
  clear hw1 b1 hbw X1
  go_wp2_with fail
  refine (awake_s w1).mono ?_
  rintro e w2 ⟨rfl, hb2⟩
  have B2 := hid (B1.out.trans (hb2.mono B1.out.size))
  have HX2 := hid (below_at hb2 (lt_of_at HX1.out) HX1.out)
  clear hb2 B1 HX1
  by_cases h3 : (60 : Int) < (n : Int)
  · go_wp2_with fail
    refine (awake_s w2).mono ?_
    rintro e w3 ⟨rfl, hb3⟩
    have B3 := B2.out.trans (hb3.mono B2.out.size)
    go_wp2
    go_ret
    exact ⟨rfl, B3⟩
  have HN : Hid (n ≤ 60) := by unfold Hid; omega
  obtain ⟨W, hW⟩ : ∃ W : V4, W = (Wa, Wb, Wc, Wd) := ⟨_, rfl⟩
  have hvI : vI W = #[.int .i64 Wa, .int .i64 Wb, .int .i64 Wc, .int .i64 Wd] := by rw [hW]
  have HORD : Hid (∀ X A n l c, SlU X A n l → n ≤ 1000 → Calls Try.prog 9 #[.agg #[.int .i64 Wa, .int .i64 Wb, .int .i64 Wc, .int .i64 Wd], .slice A n c] X fun e w' => (∃ ks A c, e = .returned (.tuple #[.slice A ks.length c, .int .i64 (errO W l)]) ∧ OutK W l ks ∧ SlN w' A ks.length ks ∧ ks.length ≤ c) ∧ Below X.heap.size X w') := fun X A n l c h h2 => by
    have := order_c W h h2 c
    rw [hvI] at this
    exact this
  have HFST : Hid (∀ X Am nm am cm c, SlN X Am nm am → nm ≤ 1000 → SlU X A n l → Calls Try.prog 15 #[.agg #[.int .i64 Wa, .int .i64 Wb, .int .i64 Wc, .int .i64 Wd], .slice Am nm cm, .slice A n c] X fun e w' => (∃ ks, OutK W l ks ∧ e = .returned (.tuple #[.string (bsK (fstV (errO W l) ks am).1), .int .i64 (fstV (errO W l) ks am).2])) ∧ Below X.heap.size X w') := fun X Am nm am cm c h1 h2 h3 => by
    have := first_any (cap := cm) (cap2 := c) W h1 h2 h3 (by have := HN.out; omega)
    rw [hvI] at this
    exact this
  clear hW hvI
  have HSL2 := hid (HS.out.below B2.out)
  have HOR := hid (HORD.out w2 A n l cap HSL2.out (by have := HN.out; omega))
  obtain ⟨y0, y1, y2, y3, -⟩ := four HX2.out
  have hl2 := lt_of_at HX2.out
  obtain ⟨z, hz⟩ : ∃ z, z = errO W l := ⟨_, rfl⟩
  rw [← hz] at HOR HFST
  have HZ := hid hz
  clear hz
  go_wp2_with fail
  refine HOR.out.mono ?_
  rintro e w3 ⟨⟨ks, A3, c3, rfl, hk3, hs3, hc3⟩, hb3⟩
  have B3 := hid (B2.out.trans (hb3.mono B2.out.size))
  have HX3 := hid (below_at hb3 hl2 HX2.out)
  have HSL3 := hid (HSL2.out.below hb3)
  have HK3 := hid hk3
  have HS3 := hid hs3
  have hkl : ks.length ≤ 60 := by have := hk3.len; have := HS.out.1; have := HN.out; omega
  have HKL := hid hkl
  have hkb : (ks.length : Int) ≤ 60 := by omega
  clear hb3 HOR hk3 hs3 y0 y1 y2 y3 hl2 B2 HX2 HSL2 hkl
  obtain ⟨y0, y1, y2, y3, -⟩ := four HX3.out
  have hl3 := lt_of_at HX3.out
  by_cases hz0 : z = 0
  case neg =>
    have hz1 : (z == 0) = false := by simpa using hz0
    have hz2 : (z != 0) = true := by simpa using hz0
    have HF := hid (HFST.out w3 none 0 [] 0 cap ⟨rfl, .inl rfl⟩ (by omega) HSL3.out)
    have F : Hid (∀ ks, fstV z ks [] = ([], z)) := fun ks => if_pos hz0
    clear hz0
    go_wp2_with fail
    refine HF.out.mono ?_
    rintro e w4 ⟨⟨ks4, -, rfl⟩, hb4⟩
    rw [F.out]
    simp only
    have B4 := hid (B3.out.trans (hb4.mono B3.out.size))
    have hzz : (z == z) = true := by simp
    clear hb4 y0 y1 y2 y3 hl3
    go_wp2
    go_ret
    exact ⟨by first | rfl | simp, B4.out⟩
  subst hz0
  have HF0 : Hid (∀ ks am, fstV 0 ks am = fstA ks am) := fun ks am => if_neg (by simp)
  obtain ⟨m, hm⟩ : ∃ m, m = ks.length := ⟨_, rfl⟩
  rw [← hm] at HS3 hkb HKL ⊢
  have HM := hid hm
  rw [← hm] at hc3
  have HCAP3 := hid hc3
  have HI0 : Hid (SlN w3 A3 m (ks.drop 0) ∧ Below w3.heap.size w3 w3) := ⟨HS3.out, Below.refl _ _⟩
  clear hm y0 y1 y2 y3 hl3
  go_wp2_with fail
  go_loopg [9] m (fun gk lv wr => ∃ (i nn : Nat) (A' : Option Addr) (c' : Nat), i + gk = m ∧ nn = gk ∧ lv = .slice A' nn c' ∧ nn ≤ c' ∧ Hid (SlN wr A' nn (ks.drop i) ∧ Below w3.heap.size w3 wr))
  case atStart => exact ⟨0, m, A3, c3, by omega, rfl, rfl, hc3, HI0⟩
  case round =>
    clear HI0 hc3
    obtain ⟨i, nn, A', c', hg, rfl, rfl, hcc, HI⟩ := hrel
    have HX : Hid (wr.heap[bw]? = some (.cells #[.int .i64 Wa, .int .i64 Wb, .int .i64 Wc, .int .i64 Wd] 23 (0, 0))) := below_at HI.out.2 (lt_of_at HX3.out) HX3.out
    obtain ⟨y0, y1, y2, y3, -⟩ := four HX.out
    have hl4 := lt_of_at HX.out
    have hnnb : (nn : Int) ≤ 60 := by have := HKL.out; omega
    have HF := hid (HFST.out wr A' nn (ks.drop i) c' cap HI.out.1 (by have := HKL.out; omega) (HSL3.out.below HI.out.2))
    by_cases hnn : 0 < nn
    · have hii : (0 : Int) < (nn : Int) := by omega
      have HG := hid hg
      have hik : i < ks.length := by have := HM.out; omega
      have HD := hid (fst_drop (outK_nodup HK3.out) hik)
      obtain ⟨b, off, hk0, rfl, hbl, c0⟩ := HI.out.1.one (Below.refl _ _) hnn
      have es : (ks.drop i)[0] = ks[i] := by simp
      rw [es, Nat.add_zero] at c0
      obtain ⟨s, hs⟩ : ∃ s, s = bsK ks[i] := ⟨_, rfl⟩
      rw [← hs] at c0
      have HSS := hid hs
      have HTL := hid (HI.out.1.tail hnn)
      have HBI := hid HI.out.2
      clear hk0 es hs HI
      go_wp2_with fail
      refine HF.out.mono ?_
      rintro e w5 ⟨⟨ks5, hk5, rfl⟩, hb5⟩
      obtain rfl := hk5.unique HK3.out
      rw [HF0.out, HD.out]
      simp only
      rw [← HSS.out]
      have d0 : w5.cell? ⟨b, off, none⟩ = some (.string s) := (hb5.cell (p := ⟨b, off, none⟩) hbl).trans c0
      have hbl5 : b < w5.heap.size := Nat.lt_of_lt_of_le hbl hb5.size
      have hs1 : (s.toList == s.toList) = true := by simp
      have hs2 : (s.toList != s.toList) = false := by simp
      have HI5 : Hid (SlN w5 (some ⟨b, off + 1, none⟩) (nn - 1) (ks5.drop (i + 1)) ∧ Below w3.heap.size w3 w5) := by
        have h1 := HTL.out.below hb5
        rw [List.tail_drop] at h1
        exact ⟨h1, HBI.out.trans (hb5.mono HBI.out.size)⟩
      have hc1 : (1 : Int) ≤ (nn : Int) := by omega
      have hc2 : (nn : Int) ≤ (c' : Int) := by omega
      clear hb5 hk5 y0 y1 y2 y3 hl4 c0 hbl HF HD HTL HBI HX
      by_cases hc3 : c' = 1
      · subst hc3
        obtain rfl : nn = 1 := by omega
        have HI6 : Hid (SlN w5 (some ⟨b, off, none⟩) 0 (ks5.drop (i + 1)) ∧ Below w3.heap.size w3 w5) := by
          have := HI5.out
          refine ⟨⟨by have := HG.out; have := HM.out; rw [List.length_drop]; omega, .inl ?_⟩, this.2⟩
          exact List.drop_eq_nil_of_le (by have := HG.out; have := HM.out; omega)
        clear hnn hg
        go_wp2
        go_roundg 0
        case rel => exact ⟨i + 1, 0, _, _, by have := HG.out; omega, rfl, rfl, by omega, HI6⟩
        case measure => omega
      · have hc4 : ¬ c' - 1 = 0 := by omega
        go_wp2
        go_roundg (nn - 1)
        case rel => exact ⟨i + 1, nn - 1, _, _, by have := HG.out; omega, rfl, rfl, by omega, HI5⟩
        case measure => omega
    · obtain rfl : nn = 0 := by omega
      have hii : ¬ (0 : Int) < ((0 : Nat) : Int) := by omega
      have hdr : ks.drop i = [] := List.drop_eq_nil_of_le (by have := HM.out; omega)
      rw [hdr] at HF
      have HFN : Hid (fstA ks [] = ([], 3)) := fst_none fun k _ => by simp
      have HBI := hid HI.out.2
      have HXX := hid HX.out
      have hlw := hl4
      clear hdr HI hcc hnn hg
      go_wp2_with fail
      refine HF.out.mono ?_
      rintro e w5 ⟨⟨ks5, hk5, rfl⟩, hb5⟩
      obtain rfl := hk5.unique HK3.out
      rw [HF0.out, HFN.out]
      simp only
      have B5 : Hid (Below w3.heap.size w3 w5) := HBI.out.trans (hb5.mono HBI.out.size)
      have HX5 := hid (below_at hb5 hlw HXX.out)
      have HS5 := hid (HS3.out.below B5.out)
      have HSL5 := hid (HSL3.out.below B5.out)
      have B05 := hid (B3.out.trans (B5.out.mono B3.out.size))
      clear hb5 hk5 y0 y1 y2 y3 hl4 hlw HF HBI HXX HX HFST
      by_cases hn0 : n = 0
      · subst hn0
        have hm0 : m = 0 := by have := HK3.out.len; have := HS.out.1; have := HM.out; omega
        subst hm0
        go_wp2
        go_ret
        exact ⟨by first | rfl | simp, B05.out⟩
      · have hn0' : ((n : Int) == 0) = false := by simpa using hn0
        have hn1 : ¬ (n : Int) = 0 := by omega
        obtain ⟨u, t, hut⟩ : ∃ u t, l = u :: t := by
          cases l with
          | nil => have := HS.out.1; simp at this; omega
          | cons u t => exact ⟨u, t, rfl⟩
        subst hut
        obtain ⟨b, off, rfl, hbl, c0, -⟩ := HSL5.out.one (Below.refl _ _) (show (u :: t)[0]? = some u from rfl)
        rw [Nat.zero_mul, Nat.add_zero] at c0
        have hg1 : (1 : Int) ≤ (n : Int) := by omega
        have hg2 : (n : Int) ≤ (cap : Int) := by have := HC.out; omega
        obtain ⟨y0, y1, y2, y3, -⟩ := four HX5.out
        have hl5 := lt_of_at HX5.out
        -- the rest's slice, wherever it begins
        obtain ⟨A9, n9, c9, hv9, HS9⟩ : ∃ (A9 : Option Addr) (n9 c9 : Nat), (∃ st, A9 = some ⟨b, st, none⟩ ∧ (cap = 1 ∧ st = off ∨ cap ≠ 1 ∧ st = off + 6)) ∧ n9 = n - 1 ∧ c9 = cap - 1 ∧ SlU w5 A9 n9 t := by
          by_cases hc1 : cap = 1
          · have ht : t = [] := by
              have := HS.out.1; have := HC.out
              simp at *
              exact List.eq_nil_of_length_eq_zero (by omega)
            refine ⟨_, n - 1, cap - 1, ⟨off, rfl, .inl ⟨hc1, rfl⟩⟩, rfl, rfl, ?_⟩
            subst ht
            exact ⟨by have := HS.out.1; simp at *; omega, .inl rfl⟩
          · refine ⟨_, n - 1, cap - 1, ⟨off + 6, rfl, .inr ⟨hc1, rfl⟩⟩, rfl, rfl, ?_⟩
            have := (HSL5.out.gen.drop (k := 1) (by omega)).us
            simpa using this
        obtain ⟨hn9, hc9, hs9⟩ := HS9
        have HOR9 : Hid (∀ X, Below w5.heap.size w5 X → Calls Try.prog 9 #[.agg #[.int .i64 Wa, .int .i64 Wb, .int .i64 Wc, .int .i64 Wd], .slice A9 n9 c9] X fun e w' => (∃ ks A c, e = .returned (.tuple #[.slice A ks.length c, .int .i64 (errO W t)]) ∧ OutK W t ks ∧ SlN w' A ks.length ks ∧ ks.length ≤ c) ∧ Below X.heap.size X w') := fun X hb => HORD.out X A9 n9 t c9 (hs9.below hb) (by have := HN.out; omega)
        have HPL : Hid (∀ X, Below w5.heap.size w5 X → Calls Try.prog 13 #[.slice A3 m c3, .string u.name] X fun e w' => e = .returned (.int .i64 (if ky u.name ∈ ks5 then ((ks5.idxOf (ky u.name) : Nat) : Int) else -1)) ∧ Below X.heap.size X w') := fun X hb => place_any (HS5.out.below hb) (by have := HKL.out; omega) c3 u.name
        have HC0 : Hid (∀ X, Below w5.heap.size w5 X → X.cell? ⟨b, off, none⟩ = some (.string u.name) ∧ b < X.heap.size) := fun X hb => ⟨(hb.cell (p := ⟨b, off, none⟩) hbl).trans c0, Nat.lt_of_lt_of_le hbl hb.size⟩
        obtain ⟨st, rfl, hst⟩ := hv9
        subst hn9 hc9
        have HE1 := hid (fun ks' => outK_rest (ks' := ks') HK3.out (HZ.out.symm))
        have HORX : Hid (∀ X, Below w5.heap.size w5 X → Calls Try.prog 9 #[.agg #[.int .i64 Wa, .int .i64 Wb, .int .i64 Wc, .int .i64 Wd], .slice (some ⟨b, st, none⟩) (n - 1) (cap - 1)] X fun e w' => (∃ ks A c, e = .returned (.tuple #[.slice A ks.length c, .int .i64 0]) ∧ OutK W t ks ∧ SlN w' A ks.length ks) ∧ Below X.heap.size X w') := fun X hb => (HOR9.out X hb).mono fun e w' ⟨⟨ks', A, c, h1, h2, h3, h4⟩, hb⟩ => ⟨⟨ks', A, c, by rw [h1, (HE1.out ks' h2).1], h2, h3⟩, hb⟩
        clear HOR9 HORD hs9 c0 hbl HF0 HFN
        rcases hst with ⟨hc1, rfl⟩ | ⟨hc1, rfl⟩
        case' inl =>
          subst hc1
          obtain rfl : n = 1 := by have := HC.out; omega
          have HORY : Hid (∀ X, Below w5.heap.size w5 X → Calls Try.prog 9 #[.agg #[.int .i64 Wa, .int .i64 Wb, .int .i64 Wc, .int .i64 Wd], .slice (some ⟨b, st, none⟩) 0 0] X fun e w' => (∃ ks A c, e = .returned (.tuple #[.slice A ks.length c, .int .i64 0]) ∧ OutK W t ks ∧ SlN w' A ks.length ks) ∧ Below X.heap.size X w') := HORX.out
        case' inr =>
          have hc1' : ¬ cap - 1 = 0 := by have := HC.out; omega
          have HORY := HORX
        all_goals
          clear HORX
          go_upto_region 18 with (fail)
          go_region_held3 (fun w' => Below w5.heap.size w5 w' ∧ (∀ b o, b < w5.heap.size → w'.cell? ⟨b, o, none⟩ = w5.cell? ⟨b, o, none⟩) ∧ ∀ b o, b < w5.heap.size → w'.frozen? ⟨b, o, none⟩ = w5.frozen? ⟨b, o, none⟩) (first | ((try go_split_ands); (try dsimp only); refine same_of ?_; (repeat (first | with_reducible assumption | with_reducible exact Below.refl _ _ | with_reducible refine Below.drew ?_ | with_reducible refine below_drewN ?_ _ | with_reducible refine below_alloc ?_ _ | with_reducible refine Below.alloc ?_ (by first | omega | (simp; done) | (simp; omega)) _ | with_reducible refine Below.setCell ?_ (by first | omega | (simp; done) | (simp; omega)) _ | with_reducible refine below_setRow ?_ (by first | omega | (simp; done) | (simp; omega)) _)); done) | ((try go_split_ands); (try dsimp only); refine same_of ?_; (repeat (first | with_reducible refine below_call ?_ hb6 | with_reducible assumption | with_reducible exact Below.refl _ _ | with_reducible refine Below.drew ?_ | with_reducible refine below_alloc ?_ _ | with_reducible refine Below.setCell ?_ (by (try have qz_hb6 := hb6.size); (try simp only [World.size_alloc, World.size_setCell, heap_drew] at qz_hb6); (try (obtain ⟨qy_hb6, -, -⟩ : Below _ _ w6 ∧ _ ∧ _ := by assumption; have qx_hb6 := qy_hb6.size)); first | omega | (dsimp only; omega)) _)); done)) ((go_at_call 9; refine (HORY.out _ (by repeat (first | with_reducible assumption | with_reducible exact Below.refl _ _ | with_reducible refine Below.drew ?_ | with_reducible refine below_drewN ?_ _ | with_reducible refine below_alloc ?_ _ | with_reducible refine Below.alloc ?_ (by first | omega | (simp; done) | (simp; omega)) _ | with_reducible refine Below.setCell ?_ (by first | omega | (simp; done) | (simp; omega)) _ | with_reducible refine below_setRow ?_ (by first | omega | (simp; done) | (simp; omega)) _))).mono ?_; rintro e w6 ⟨⟨ks6, A6, c6, rfl, hk6, hs6⟩, hb6⟩; obtain ⟨hc6, hf6⟩ := bcell hb6; have D6 : Below w5.heap.size w5 w6 := Below.trans (by repeat (first | with_reducible assumption | with_reducible exact Below.refl _ _ | with_reducible refine Below.drew ?_ | with_reducible refine below_drewN ?_ _ | with_reducible refine below_alloc ?_ _ | with_reducible refine Below.alloc ?_ (by first | omega | (simp; done) | (simp; omega)) _ | with_reducible refine Below.setCell ?_ (by first | omega | (simp; done) | (simp; omega)) _ | with_reducible refine below_setRow ?_ (by first | omega | (simp; done) | (simp; omega)) _)) (hb6.mono (Below.size (B := w5.heap.size) (w := w5) (by repeat (first | with_reducible assumption | with_reducible exact Below.refl _ _ | with_reducible refine Below.drew ?_ | with_reducible refine below_drewN ?_ _ | with_reducible refine below_alloc ?_ _ | with_reducible refine Below.alloc ?_ (by first | omega | (simp; done) | (simp; omega)) _ | with_reducible refine Below.setCell ?_ (by first | omega | (simp; done) | (simp; omega)) _ | with_reducible refine below_setRow ?_ (by first | omega | (simp; done) | (simp; omega)) _))))))
        all_goals
          obtain ⟨e1, e2, e3, e4⟩ := HE1.out ks6 hk6
          have HB6 := hid (B05.out.trans (D6.mono B05.out.size))
          obtain ⟨c0, hbl⟩ := HC0.out w6 D6
          have HP6 := hid (HPL.out w6 D6)
          rw [if_pos e2] at HP6
          obtain ⟨kk, hkk⟩ : ∃ kk, kk = ks5.idxOf (ky u.name) := ⟨_, rfl⟩
          rw [← hkk] at HP6 e4
          obtain ⟨m6, hm6⟩ : ∃ m6, m6 = ks6.length := ⟨_, rfl⟩
          rw [← hm6] at e3 e4 hs6 ⊢
          obtain rfl : m = m6 + 1 := by have := HM.out; omega
          have HS6 := hid hs6
          have HO6 := hid (HS5.out.below D6)
          have HE4 := hid e4
          have HM6 := hid hm6
          have hkkb : (kk : Int) ≤ 60 := by
            have h1 := List.idxOf_lt_length_of_mem e2
            have := HKL.out; have := HM.out
            rw [← hkk] at h1
            omega
          have hm6b : (m6 : Int) ≤ 60 := by have := HKL.out; omega
          clear HE1 HORY HC0 HPL hc6 hf6 hb6 D6 y0 y1 y2 y3 hl5 hk6 hs6 e1 e2 e3 e4 hkk hm6 B05 HSL5 HX5
          go_wp2_with fail
          refine HP6.out.mono ?_
          rintro e w7 ⟨rfl, hb7⟩
          have HI7 : Hid (Below w6.heap.size w6 w7) := hb7
          have hk0 : ¬ (kk : Int) < 0 := by omega
          have iw : IntKind.i64.wrap (((m6 + 1 : Nat) : Int) - 1) = (m6 : Int) := by rw [show ((m6 + 1 : Nat) : Int) - 1 = m6 by omega]; exact IntWalk.i64_in _ (by omega)
          have iw2 : IntKind.i64.wrap ((m6 : Int) + 1 - 1) = (m6 : Int) := by rw [show (m6 : Int) + 1 - 1 = m6 by omega]; exact IntWalk.i64_in _ (by omega)
          have hmm : ((m6 : Int) == (m6 : Int)) = true := by simp
          have hmm2 : ((m6 : Int) != (m6 : Int)) = false := by simp
          clear hb7 c0 hbl HP6
          go_wp2_with fail
          go_loopw [17] (fun iv wr => ∃ i : Nat, i ≤ m6 ∧ iv = .int .i64 i ∧ Hid (Below w6.heap.size w6 wr)) (fun iv _ => m6 - (intOf iv).toNat)
          case atStart => exact ⟨0, Nat.zero_le _, rfl, HI7⟩
          case round =>
            clear HI7 iw iw2
            obtain ⟨i, hi, rfl, HI⟩ := hrel
            by_cases him : i < m6
            · have HK1 : Hid (i + 1 ≤ m6) := him
              have HMS : Hid (m6 - (i + 1) < m6 - i) := by unfold Hid; omega
              have hii : (i : Int) < (m6 : Int) := by omega
              obtain ⟨b1, off1, hj1, rfl, hbl1, d0⟩ := HS6.out.one HI.out him
              have HBX : Hid (∀ X, Below wr.heap.size wr X → Below w6.heap.size w6 X) := fun X hb => HI.out.trans (hb.mono HI.out.size)
              by_cases hki : kk ≤ i
              · have hkii : (kk : Int) ≤ (i : Int) := by omega
                obtain ⟨b2, off2, hj2, rfl, hbl2, d1⟩ := HO6.out.one (j := i + 1) HI.out (by omega)
                have hi1 : ((i + 1 : Nat) : Int) = (i : Int) + 1 := by omega
                have hi2 : (i : Int) + 1 < (m6 : Int) + 1 := by omega
                have es : ks6[i] = ks5[i + 1] := by
                  have := HE4.out i (by have := HM6.out; omega)
                  rw [if_pos hki, List.getElem?_eq_getElem hj1, List.getElem?_eq_getElem hj2] at this
                  injection this
                rw [es] at d0
                obtain ⟨s, hs⟩ : ∃ s, s = bsK ks5[i + 1] := ⟨_, rfl⟩
                rw [← hs] at d0 d1
                have hs1 : (s.toList == s.toList) = true := by simp
                have hs2 : (s.toList != s.toList) = false := by simp
                clear hs es hki hi him HI
                go_upto_region 28 with (fail)
                go_quiet (fail)
                go_wp2
                go_roundw
                case rel => exact ⟨i + 1, HK1.out, by go_num, HBX.out _ (by repeat (first | with_reducible assumption | with_reducible exact Below.refl _ _ | with_reducible refine Below.drew ?_ | with_reducible refine below_drewN ?_ _ | with_reducible refine below_alloc ?_ _ | with_reducible refine Below.alloc ?_ (by first | omega | (simp; done) | (simp; omega)) _ | with_reducible refine Below.setCell ?_ (by first | omega | (simp; done) | (simp; omega)) _ | with_reducible refine below_setRow ?_ (by first | omega | (simp; done) | (simp; omega)) _))⟩
                case measure => have := HMS.out; simp [intOf]; omega
              · have hkii : ¬ (kk : Int) ≤ (i : Int) := by omega
                obtain ⟨b2, off2, hj2, rfl, hbl2, d1⟩ := HO6.out.one (j := i) HI.out (by omega)
                have hi2 : (i : Int) < (m6 : Int) + 1 := by omega
                have es : ks6[i] = ks5[i] := by
                  have := HE4.out i (by have := HM6.out; omega)
                  rw [if_neg hki, List.getElem?_eq_getElem hj1, List.getElem?_eq_getElem hj2] at this
                  injection this
                rw [es] at d0
                obtain ⟨s, hs⟩ : ∃ s, s = bsK ks5[i] := ⟨_, rfl⟩
                rw [← hs] at d0 d1
                have hs1 : (s.toList == s.toList) = true := by simp
                have hs2 : (s.toList != s.toList) = false := by simp
                clear hs es hki hi him HI
                go_upto_region 28 with (fail)
                go_quiet (fail)
                go_wp2
                go_roundw
                case rel => exact ⟨i + 1, HK1.out, by go_num, HBX.out _ (by repeat (first | with_reducible assumption | with_reducible exact Below.refl _ _ | with_reducible refine Below.drew ?_ | with_reducible refine below_drewN ?_ _ | with_reducible refine below_alloc ?_ _ | with_reducible refine Below.alloc ?_ (by first | omega | (simp; done) | (simp; omega)) _ | with_reducible refine Below.setCell ?_ (by first | omega | (simp; done) | (simp; omega)) _ | with_reducible refine below_setRow ?_ (by first | omega | (simp; done) | (simp; omega)) _))⟩
                case measure => have := HMS.out; simp [intOf]; omega
            · obtain rfl : i = m6 := by omega
              have hii : ¬ (i : Int) < (i : Int) := by omega
              have FIN := hid (HB6.out.trans (HI.out.mono HB6.out.size))
              clear hi him HI
              go_wp2
              go_ret
              exact ⟨rfl, FIN.out⟩
end Go.Proofs.Yteccpjijlkjneaa
