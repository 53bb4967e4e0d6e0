/- DagReleases' walk. -/
import Derived.Test.YtolfioiccmmifaaDyD
namespace Go.Proofs.Ytolfioiccmmifaa
open Go.RowKit
/-- The first loop's relation. -/
structure Ra (b : Nat) (w wr : World) (H i : Nat) (R : Nat → Value) (G : Gr) (v : Value) (F : List Nat) : Prop where
  low : Low i G
  gf : GF b wr H R G v F
  nd : F.Nodup
  fr : ∀ x, x ∈ F ↔ (1 ≤ x ∧ x ≤ i) ∧ G.pa x = []
  bel : Below b w wr
theorem Ra.len {b H i : Nat} {w wr : World} {R : Nat → Value} {G : Gr} {v : Value} {F : List Nat} (h : Ra b w wr H i R G v F) (hi : i ≤ 100) : F.length ≤ 100 :=
  len100 h.nd fun x hx => by have := ((h.fr x).1 hx).1; omega
theorem Ra.add {b H i : Nat} {w wr w' : World} {R R' : Nat → Value} {G : Gr} {v : Value} {F : List Nat} {zs : List Int} (h : Ra b w wr H i R G v F) (g : GrV b w' H R' (G.add (i + 1) (dd zs))) (gr : GrowD wr H R R') (t : Tur (FootD H R) wr w') (hl : Low (i + 1) (G.add (i + 1) (dd zs))) (hd : dd zs ≠ []) : Ra b w w' H (i + 1) R' (G.add (i + 1) (dd zs)) v F := by
  refine ⟨hl, h.gf.graph g gr t, h.nd, fun x => ?_, h.bel.trans (h.gf.g.belowB t (Nat.le_refl _))⟩
  rw [h.fr, add_pa]
  by_cases e : x = i + 1
  · subst e
    rw [if_pos rfl]
    exact ⟨fun q => by omega, fun q => absurd q.2 hd⟩
  · rw [if_neg e]
    exact and_congr ⟨fun q => by omega, fun q => by omega⟩ Iff.rfl
theorem Ra.addF {b H i cap : Nat} {w wr w' : World} {R R' : Nat → Value} {G : Gr} {A : Option Addr} {F : List Nat} {zs : List Int} (h : Ra b w wr H i R G (.slice A F.length cap) F) (hi : i < 100) (g : GrV b w' H R' (G.add (i + 1) (dd zs))) (gr : GrowD wr H R R') (t : Tur (FootD H R) wr w') (hl : Low (i + 1) (G.add (i + 1) (dd zs))) (hd : dd zs = []) :
    ∃ A' cap' w2, (Builtin.append_ #[31, 31] 31 #[.slice A F.length cap, .slice (some ⟨w'.heap.size, 0, none⟩) 1 1]).run Try.prog (w'.alloc (.cells #[.int .i64 ((i : Int) + 1)] 2)) = .ok (.slice A' (F.length + 1) cap') w2 ∧ Ra b w w2 H (i + 1) R' (G.add (i + 1) (dd zs)) (.slice A' (F.length + 1) cap') (F ++ [i + 1]) := by
  have hF := h.gf.graph g gr t
  obtain ⟨A', cap', w2, happ, h2, hb2, -, -⟩ := hF.app (by have := h.len (by omega); omega) (i + 1)
  rw [show ((i + 1 : Nat) : Int) = (i : Int) + 1 by omega] at happ
  have hni : i + 1 ∉ F := fun q => by have := ((h.fr _).1 q).1; omega
  refine ⟨A', cap', w2, happ, hl, h2, List.nodup_append.2 ⟨h.nd, by simp, fun a ha c hc e => ?_⟩, fun x => ?_, (h.bel.trans (h.gf.g.belowB t (Nat.le_refl _))).trans hb2⟩
  · rw [List.mem_singleton] at hc
    subst hc; subst e
    exact hni ha
  · rw [List.mem_append, List.mem_singleton, h.fr, add_pa]
    by_cases e : x = i + 1
    · subst e
      rw [if_pos rfl]
      exact ⟨fun _ => ⟨by omega, hd⟩, fun _ => .inr rfl⟩
    · rw [if_neg e]
      constructor
      · rintro (q | q)
        · exact ⟨by omega, q.2⟩
        · exact absurd q e
      · exact fun q => .inl ⟨by omega, q.2⟩
set_option maxRecDepth 100000 in
set_option maxHeartbeats 16000000 in
theorem dagReleases_any (A : Option Addr) (n cap : Nat) (w : World) (hs : Sl2 w A n) (hn : n ≤ maxLen) :
    Calls Try.prog 5 #[.slice A n cap] w fun e w' => e = .returned (.bool true) ∧ Below w.heap.size w w' := by
  have HS := hid hs
  have HNM := hid hn
  clear hs hn
  go_enter Try.func5, Try.ntmps5
  go_wp2_with fail
  refine (awake_g w).mono ?_
  rintro e w1 ⟨rfl, hb1⟩
  have B1 := hid hb1
  clear hb1
  by_cases hn : n ≤ 100
  case neg =>
    have hni : (100 : Int) < (n : Int) := by omega
    go_wp2_with fail
    refine (awake_g w1).mono ?_
    rintro e w2 ⟨rfl, hb2⟩
    have B2 := B1.out.trans (hb2.mono B1.out.size)
    go_wp2
    go_ret
    exact ⟨rfl, B2⟩
  have hni : ¬ (100 : Int) < (n : Int) := by omega
  have hnb : (n : Int) ≤ 100 := by omega
  have HN : Hid (n ≤ 100) := hn
  clear hn
  go_wp2_with fail
  refine (new_g w.heap.size w1 B1.out.size).mono ?_
  rintro e w2 ⟨rfl, hb2, hG2⟩
  have B2 := hid (B1.out.trans (hb2.mono B1.out.size))
  obtain ⟨H, hH⟩ : ∃ H, H = w1.heap.size := ⟨_, rfl⟩
  rw [← hH] at hG2 ⊢
  have HRA : Hid (Ra w.heap.size w w2 H 0 (fun _ => .slice none 0 0) gr0 (.slice none 0 0) []) := ⟨Low.start, ⟨hG2, World.ownsRow_nil _ _ _ _, (fun k hk => nomatch hk)⟩, List.nodup_nil, fun x => ⟨(fun hx => nomatch hx), fun hx => by omega⟩, B2.out⟩
  clear hb2 hG2 hH B1 B2 w1
  go_wp2_with fail
  go_loopw [4, 5] (fun fv iv wr => ∃ (i : Nat) (R : Nat → Value) (G : Gr) (v : Value) (F : List Nat), i ≤ n ∧ v = fv ∧ iv = .int .i64 i ∧ Hid (Ra w.heap.size w wr H i R G v F)) (fun _ iv _ => n - (intOf iv).toNat)
  case atStart => exact ⟨0, _, _, _, [], Nat.zero_le _, rfl, rfl, HRA⟩
  case round =>
    clear HRA
    obtain ⟨i, R, G, v, F, hi, rfl, rfl, HI⟩ := hrel
    by_cases hin : i < n
    · have HK1 : Hid (i + 1 ≤ n) := hin
      have HMS : Hid (n - (i + 1) < n - i) := by unfold Hid; omega
      have hii : (i : Int) < (n : Int) := by omega
      have hib : (i : Int) ≤ 100 := by omega
      obtain ⟨w3, hw3⟩ : ∃ w3, w3 = wr := ⟨_, rfl⟩
      subst hw3
      obtain ⟨b0, o0, Ai, ni, ci, rfl, hb0, hcell, hnm, hsb⟩ := HS.out.one hin
      have HCE := hid hcell
      have HSB := hid hsb
      have HNI : Hid (ni ≤ maxLen) := hnm
      have hb0w : b0 < w3.heap.size := Nat.lt_of_lt_of_le hb0 HI.out.bel.size
      have HB0 := hid hb0
      have HZ : Hid (w.heap.size ≤ w3.heap.size) := HI.out.bel.size
      clear hcell hsb hnm hin hi
      go_wp2_with fail
      go_loopw [6, 7] (fun lv kv wr => ∃ (k : Nat) (l : Value) (zs : List Int), k ≤ 5 ∧ l = lv ∧ kv = .int .i64 k ∧ Hid (Pz w3.heap.size wr l zs i k ∧ Below w3.heap.size w3 wr ∧ ∃ A c, l = .slice A k c)) (fun _ kv _ => 5 - (intOf kv).toNat)
      case atStart => exact ⟨0, _, [], by omega, rfl, rfl, hid ⟨Pz.start _ _ _, Below.refl _ _, none, 0, rfl⟩⟩
      case round =>
        obtain ⟨k, l, zs, hk, rfl, rfl, HP⟩ := hrel
        have HBW := hid (HI.out.bel.trans (HP.out.2.1.mono HZ.out))
        have c0 := HCE.out wr HBW.out
        have hb0r : b0 < wr.heap.size := Nat.lt_of_lt_of_le HB0.out HBW.out.size
        obtain ⟨A7, cap7, rfl⟩ := HP.out.2.2
        have hnib : (ni : Int) ≤ 9223372036854775807 := by have := HNI.out; unfold maxLen at this; omega
        by_cases hgo : k < ni ∧ k < 5 ∧ 0 < i
        · obtain ⟨g1, g2, g3⟩ := hgo
          have q1 : (k : Int) < (ni : Int) := by omega
          have q2 : (k : Int) < 5 := by omega
          have q3 : (0 : Int) < (i : Int) := by omega
          obtain ⟨b1, o1, z, rfl, hb1, hz, z0, z1⟩ := HSB.out.one g1
          have cz := hz wr HBW.out
          have hb1r : b1 < wr.heap.size := Nat.lt_of_lt_of_le hb1 HBW.out.size
          have ec : IntKind.i64.wrap z = z := IntWalk.i64_in _ (by omega)
          obtain ⟨m, hm⟩ : ∃ m : Int, m = z % (i : Int) := ⟨_, rfl⟩
          have hm0 : 0 ≤ m := by rw [hm]; exact Int.emod_nonneg _ (by omega)
          have hm1 : m < (i : Int) := by rw [hm]; exact Int.emod_lt_of_pos _ (by omega)
          have er : z.tmod (i : Int) = m := by rw [Int.tmod_eq_emod_of_nonneg z0, hm]
          have er' : IntKind.i64.wrap m = m := IntWalk.i64_in _ (by omega)
          have hiz : ¬ (i : Int) = 0 := by omega
          obtain ⟨A8, cap8, w5, happ, hp5, hb5⟩ := HP.out.1.app (z := 1 + m) (by omega) (by omega) HP.out.2.1.size
          have HAPP := hid happ
          have HP5 := hid hp5
          have HB5 := hid (HP.out.2.1.trans hb5)
          have HK5 : Hid (k + 1 ≤ 5) := g2
          have HMS5 : Hid (5 - (k + 1) < 5 - k) := by unfold Hid; omega
          clear happ hp5 hb5 hz hm g1 g2 g3 hk HP
          go_wp2_with (first | (at_builtin; refine wpList_append_eq rfl _ _ _ rfl rfl rfl HAPP.out ?_))
          go_roundw
          case rel => exact ⟨k + 1, _, _, HK5.out, rfl, by go_num, hid ⟨HP5.out, HB5.out, _, _, rfl⟩⟩
          case measure => have := HMS5.out; simp [intOf]; omega
        · have HZS := hid HP.out.1.2.1
          have HKL : Hid (k = zs.length) := HP.out.1.2.2.symm
          have HK5 : Hid (k ≤ 5) := hk
          have hi100 : i < 100 := by have := HN.out; have := HK1.out; omega
          have HRA : Hid (Ra w.heap.size w wr H i R G v F) := ⟨HI.out.low, HI.out.gf.below (HP.out.2.1), HI.out.nd, HI.out.fr, HBW.out⟩
          have HADD := hid (HRA.out.low.addC (cap := cap7) HRA.out.gf.g hi100 HP.out.1.slz hk HP.out.1.2.1)
          have HDN := hid (dd_null HKL.out (by omega) HZS.out)
          have HI100 := hid hi100
          obtain ⟨A4, cap4, rfl⟩ := row_shape HRA.out.gf.r
          have HFL := hid (HRA.out.len (by omega))
          have hkk : (k : Int) ≤ 5 := by omega
          clear HP hk hi100 HI HBW
          rcases (by omega : ¬ ((k : Int) < (ni : Int)) ∨ ((k : Int) < (ni : Int) ∧ ¬ (k : Int) < 5) ∨ ((k : Int) < (ni : Int) ∧ (k : Int) < 5 ∧ ¬ (0 : Int) < (i : Int))) with q1 | ⟨q1, q2⟩ | ⟨q1, q2, q3⟩
          all_goals
            clear hgo
            go_wp2_with fail
            refine HADD.out.mono ?_
            rintro e w6 ⟨rfl, ⟨R6, g6, gr6⟩, t6, low6⟩
            by_cases hk0 : k = 0
            · obtain ⟨A8, cap8, w7, happ, hra⟩ := HRA.out.addF HI100.out g6 gr6 t6 low6 (HDN.out.2 hk0)
              have HAPP := hid happ
              have HRA7 := hid hra
              rw [decide_eq_true hk0]
              have e0 : ((k : Int) == 0) = true := by simp; omega
              clear happ hra g6 gr6 t6 low6 hk0 HADD HRA c0 hb0r
              go_wp2_with (first | (at_builtin; refine wpList_append_eq rfl _ _ _ rfl rfl rfl HAPP.out ?_))
              go_roundw
              case rel => exact ⟨i + 1, _, _, _, _, HK1.out, rfl, by go_num, HRA7⟩
              case measure => have := HMS.out; simp [intOf]; omega
            · have HRA6 := hid (HRA.out.add g6 gr6 t6 low6 (fun q => hk0 (HDN.out.1 q)))
              rw [decide_eq_false hk0]
              have e0 : ((k : Int) == 0) = false := by simp; omega
              clear g6 gr6 t6 low6 hk0 HADD HRA c0 hb0r
              go_wp2
              go_roundw
              case rel => exact ⟨i + 1, _, _, _, _, HK1.out, rfl, by go_num, HRA6⟩
              case measure => have := HMS.out; simp [intOf]; omega
    · obtain rfl : i = n := by omega
      have HREL := hid (HI.out.low.rel HI.out.nd HI.out.fr)
      have HGF := hid HI.out.gf
      have HBEL := hid HI.out.bel
      clear HI hi hin
      go_wp2_with fail
      go_loopw [4, 10] (fun fv iv wr => ∃ (j : Nat) (R : Nat → Value) (G : Gr) (v : Value) (F : List Nat), j ≤ 100 ∧ v = fv ∧ iv = .int .i64 j ∧ Hid (Rel i G F j ∧ GF w.heap.size wr H R G v F ∧ Below w.heap.size w wr)) (fun _ iv _ => 101 - (intOf iv).toNat)
      case atStart => exact ⟨0, _, _, _, _, by omega, rfl, rfl, hid ⟨HREL.out, HGF.out, HBEL.out⟩⟩
      case round =>
        clear HREL HGF HBEL
        obtain ⟨j, R, G, v, F, hj, rfl, rfl, HJ⟩ := hrel
        obtain ⟨A4, cap4, rfl⟩ := row_shape HJ.out.2.1.r
        have hFl := HJ.out.1.len
        have hFb : (F.length : Int) ≤ 100 := by have := HN.out; omega
        by_cases hjn : j < F.length
        · have hjj : (j : Int) < (F.length : Int) := by omega
          obtain ⟨g4, x, rfl, hg4, cx, hm, hx⟩ := row_elem HJ.out.2.1.r hjn
          obtain ⟨hfree, -, hxr⟩ := HJ.out.1.at hx
          have HDO := hid (done_ok HJ.out.2.1.g HJ.out.1.ok hfree)
          have HNX := hid (HJ.out.1.next hx)
          have HNEW : Hid (∀ y ∈ G.doneL x, y ∉ F) := fun y hy => (HJ.out.1.newN hy).1
          have HFR : Hid (∀ y ∈ G.doneL x, (G.done x).free y) := fun y hy => (done_free HJ.out.1.ok hfree y).2 (.inr hy)
          have HJ1 : Hid (j + 1 ≤ 100) := by have := HN.out; unfold Hid; omega
          have HMJ : Hid (101 - (j + 1) < 101 - j) := by unfold Hid; omega
          have HFL : Hid (F.length ≤ 100) := by have := HN.out; unfold Hid; omega
          have HLL : Hid ((G.doneL x).length ≤ 100) := len100 (nodup_of_lt (pick_sorted _)) fun y hy => by
            have := (HJ.out.1.newN hy).2
            have := HN.out
            omega
          obtain ⟨w4, hw4⟩ : ∃ w4, w4 = wr := ⟨_, rfl⟩
          subst hw4
          clear hx hm hfree hxr hj hjn
          go_wp2_with fail
          refine HDO.out.mono ?_
          rintro e w5 ⟨v5, rfl, hrow5, hg5, ht5⟩
          have hgf5 := HJ.out.2.1.graph hg5 (GrowD.refl _ _ _) ht5
          have hbel5 := HJ.out.2.2.trans (HJ.out.2.1.g.belowB ht5 (Nat.le_refl _))
          obtain ⟨L, hL⟩ : ∃ L, L = G.doneL x := ⟨_, rfl⟩
          rw [← hL] at hrow5 HNEW HFR HLL HNX
          have HND : Hid L.Nodup := by rw [hL]; exact nodup_of_lt (pick_sorted _)
          have HRD : Hid (Rd w.heap.size w w5 H R (G.done x) (.slice (some ⟨g4, 0, none⟩) F.length cap4) v5 F L) := by
            refine ⟨hgf5, row_base hrow5 HJ.out.2.1.g.le, fun g hg e => ?_, hbel5⟩
            have h1 := (hrow5.lt g hg).1
            have h2 := (HJ.out.2.1.r.lt g e).2
            omega
          obtain ⟨A5, cap5, rfl⟩ := row_shape hrow5
          have hLb : (L.length : Int) ≤ 100 := by have := HLL.out; omega
          clear hrow5 hg5 ht5 hgf5 hbel5 hL HDO cx
          go_wp2_with fail
          go_loopw [4, 13] (fun fv kv wr => ∃ (k : Nat) (v : Value) (M : List Nat), k ≤ L.length ∧ v = fv ∧ kv = .int .i64 k ∧ Hid (M = F ++ L.take k) ∧ Hid (Rd w.heap.size w wr H R (G.done x) v (.slice A5 L.length cap5) M L)) (fun _ kv _ => L.length - (intOf kv).toNat)
          case atStart => exact ⟨0, _, F, Nat.zero_le _, rfl, rfl, by unfold Hid; rw [List.take_zero, List.append_nil], HRD⟩
          case round =>
            clear HRD
            obtain ⟨k, v, M, hk, rfl, rfl, HM, HK⟩ := hrel
            obtain ⟨A6, cap6, rfl⟩ := row_shape HK.out.gf.r
            by_cases hkn : k < L.length
            · have hkk : (k : Int) < (L.length : Int) := by omega
              have HK1 : Hid (k + 1 ≤ L.length) := hkn
              have HMK : Hid (L.length - (k + 1) < L.length - k) := by unfold Hid; omega
              obtain ⟨g5, y, rfl, hg5, cy, hmy, hy⟩ := row_elem HK.out.l hkn
              have hnin : ((y : Int)) ∉ toZ M := fun q => by
                obtain ⟨z, hz, e⟩ := toZ_mem.1 q
                rw [HM.out] at hz
                have : z = y := by omega
                subst this
                rcases List.mem_append.1 hz with q | q
                · exact HNEW.out z hmy q
                · exact take_not HND.out hy q
              have hlen : M.length ≤ 200 := by
                rw [HM.out, List.length_append, List.length_take]
                have := HFL.out; have := HLL.out
                omega
              have HIN := hid (in_any (cap := cap6) (y : Int) (slz_row HK.out.gf.r) (by omega))
              rw [decide_eq_false hnin] at HIN
              have HFY := hid (free_yes HK.out.gf.g HNX.out.ok (HFR.out y hmy))
              have HY := hid hy
              have HLE := hid hlen
              have hlb : (M.length : Int) ≤ 200 := by omega
              clear hnin hmy hy hlen hk hkn
              go_wp2_with fail
              refine HIN.out.mono ?_
              rintro e w6 ⟨rfl, rfl⟩
              go_wp2_with fail
              refine HFY.out.mono ?_
              rintro e w7 ⟨rfl, hb7⟩
              have cy7 := (hb7.cell (p := ⟨g5, k, none⟩) hg5).trans cy
              have hg57 : g5 < w7.heap.size := Nat.lt_of_lt_of_le hg5 hb7.size
              obtain ⟨A8, cap8, w8, happ, hrd⟩ := (HK.out.below hb7).app (y := y) (by have := HLE.out; omega)
              have HAPP := hid happ
              have HRD8 := hid hrd
              clear happ hrd hb7 HIN HFY HK cy hg5
              go_wp2_with (first | (at_builtin; refine wpList_append_eq rfl _ _ _ rfl rfl rfl HAPP.out ?_))
              go_roundw
              case rel => exact ⟨k + 1, _, M ++ [y], HK1.out, rfl, by go_num, by unfold Hid; rw [take_next HY.out, ← List.append_assoc, HM.out], HRD8⟩
              case measure => have := HMK.out; simp [intOf]; omega
            · obtain rfl : k = L.length := by omega
              have HGF := HK.out.gf
              have HM' := HM.out
              rw [List.take_length] at HM'
              rw [HM'] at HGF
              have HG9 := hid HGF
              have HB9 := hid HK.out.bel
              have hkk : ¬ (L.length : Int) < (L.length : Int) := by omega
              clear HK hk hkn HGF
              go_wp2
              go_roundw
              case rel =>
                rw [HM']
                exact ⟨j + 1, _, _, _, _, HJ1.out, rfl, by go_num, hid ⟨HNX.out, HG9.out, HB9.out⟩⟩
              case measure => have := HMJ.out; simp [intOf]; omega
        · have hjF : j = F.length := by have := HJ.out.1.hi; omega
          have HALL : Hid (F.length = i) := HJ.out.1.all hjF
          have hjj : ¬ (j : Int) < (F.length : Int) := by omega
          have HB9 := hid HJ.out.2.2
          have hee : ((F.length : Int) == (i : Int)) = true := by rw [HALL.out]; simp
          clear HJ hj hjn hFl hjF
          go_wp2
          go_ret
          exact ⟨by first | rfl | (simp; done), HB9.out⟩
end Go.Proofs.Ytolfioiccmmifaa
