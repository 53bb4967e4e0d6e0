/- ShareFirsts' walk. -/
import Derived.Test.YteccpjijlkjneaaShF
namespace Go.Proofs.Yteccpjijlkjneaa
open Go.RowKit Go.WideShapes
set_option maxRecDepth 100000 in
set_option maxHeartbeats 8000000 in
theorem shareFirsts_any (Wa Wb Wc Wd : Int) (Am : Option Addr) (nm cm : Nat) (am : List (List UInt8)) (A : Option Addr) (n cap : Nat) (l : List Us) (w : World) (hma : SlN w Am nm am) (hnm : nm ≤ maxLen) (h : SlU w A n l) (hn : n ≤ maxLen) :
    Calls Try.prog 6 #[.agg #[.int .i64 Wa, .int .i64 Wb, .int .i64 Wc, .int .i64 Wd], .slice Am nm cm, .slice A n cap] w fun e w' => e = .returned (.bool true) ∧ Below w.heap.size w w' := by
  have HS := hid h
  have hnb : (n : Int) ≤ 9223372036854775807 := by unfold maxLen at hn; omega
  have HMA := hid hma
  have hmb : (nm : Int) ≤ 9223372036854775807 := by unfold maxLen at hnm; omega
  clear h hn hma hnm
  go_enter Try.func6, Try.ntmps6
  go_upto_region 1 with (fail)
  refine wp_name ?_
  intro w1 hw1
  have b1 : Below w.heap.size w w1 := by rw [hw1]; exact (by repeat (first | with_reducible assumption | with_reducible exact Below.refl _ _ | with_reducible refine Below.drew ?_ | with_reducible refine below_drewN ?_ _ | with_reducible refine below_alloc ?_ _ | with_reducible refine Below.alloc ?_ (by first | omega | (simp; done) | (simp; omega)) _ | with_reducible refine Below.setCell ?_ (by first | omega | (simp; done) | (simp; omega)) _ | with_reducible refine below_setRow ?_ (by first | omega | (simp; done) | (simp; omega)) _))
  have X1 : w1.heap[w.heap.size]? = some (.cells #[.int .i64 Wa, .int .i64 Wb, .int .i64 Wc, .int .i64 Wd] 23 (0, 0)) := by rw [hw1]; exact at_of (by apply Exists.intro; refine ⟨?_, ?_⟩; (focus ((repeat (first | (with_reducible assumption) | (with_reducible exact alloc_at _ _) | ((with_reducible apply alloc_at'); (simp; done)) | (with_reducible apply alloc_at_lt) | (with_reducible apply heap_drew_at) | (with_reducible apply heap_drewN_at) | (with_reducible apply heap_setCell_same) | ((with_reducible apply heap_set_ne); (first | omega | (dsimp only; omega) | (simp; done) | (simp; omega))) | (with_reducible apply setRow_at) | ((with_reducible apply setRow_ne); (first | omega | (dsimp only; omega) | (simp; done) | (simp; omega))))))); simp)
  obtain ⟨bw, hbw⟩ : ∃ x, x = w.heap.size := ⟨_, rfl⟩
  rw [← hbw] at X1 ⊢
  have HX1 := hid X1
  have B1 := hid b1
  clear hw1 b1 hbw X1
  go_wp2_with fail
  refine (awake_s w1).mono ?_
  rintro e w2 ⟨rfl, hb2⟩
  have B2 := hid (B1.out.trans (hb2.mono B1.out.size))
  have HX2 := hid (below_at hb2 (lt_of_at HX1.out) HX1.out)
  clear hb2 B1 HX1
  by_cases h3 : (100 : Int) < (n : Int)
  · go_wp2_with fail
    refine (awake_s w2).mono ?_
    rintro e w3 ⟨rfl, hb3⟩
    have B3 := B2.out.trans (hb3.mono B2.out.size)
    go_wp2
    go_ret
    exact ⟨rfl, B3⟩
  by_cases h4 : (100 : Int) < (nm : Int)
  · go_wp2_with fail
    refine (awake_s w2).mono ?_
    rintro e w3 ⟨rfl, hb3⟩
    have B3 := B2.out.trans (hb3.mono B2.out.size)
    go_wp2
    go_ret
    exact ⟨rfl, B3⟩
  have HN : Hid (n ≤ 100 ∧ nm ≤ 100) := by unfold Hid; omega
  have HOR := hid (first_any (cap := cm) (cap2 := cap) (Wa, Wb, Wc, Wd) (HMA.out.below B2.out) (by have := HN.out; omega) (HS.out.below B2.out) (by have := HN.out; omega))
  have HSL2 := hid (HS.out.below B2.out)
  obtain ⟨y0, y1, y2, y3, -⟩ := four HX2.out
  have hl2 := lt_of_at HX2.out
  go_wp2_with fail
  refine HOR.out.mono ?_
  rintro e w3 ⟨⟨ks, hk3, rfl⟩, hb3⟩
  have B3 := hid (B2.out.trans (hb3.mono B2.out.size))
  have HX3 := hid (below_at hb3 hl2 HX2.out)
  have HSL3 := hid (HSL2.out.below hb3)
  have HK3 := hid hk3
  have HM3 := hid (HMA.out.below B3.out)
  clear hb3 HOR hk3 y0 y1 y2 y3 hl2 B2 HX2 HSL2
  obtain ⟨y0, y1, y2, y3, -⟩ := four HX3.out
  have hl2 := lt_of_at HX3.out
  obtain ⟨z, hz⟩ : ∃ z, z = fstV (errO (Wa, Wb, Wc, Wd) l) ks am := ⟨_, rfl⟩
  rw [← hz]
  obtain ⟨zk, ze⟩ := z
  simp only
  obtain ⟨zs, hzs⟩ : ∃ zs, zs = bsK zk := ⟨_, rfl⟩
  rw [← hzs]
  have HPL : Hid (∀ X, Below w3.heap.size w3 X → Calls Try.prog 11 #[.slice A n cap] X fun e w' => (∃ A2 c, e = .returned (.slice A2 n c) ∧ SlU w' A2 n l) ∧ Below X.heap.size X w') := fun X hb => plain_q (HSL3.out.below hb) (by have := HN.out; omega)
  have HRO : Hid (∀ X A2 c, SlN X Am nm am → SlU X A2 n l → Calls Try.prog 16 #[.agg #[.int .i64 Wa, .int .i64 Wb, .int .i64 Wc, .int .i64 Wd], .slice Am nm cm, .slice A2 n c] X fun e w' => e = .returned (.tuple #[.string zs, .int .i64 ze]) ∧ Below X.heap.size X w') := fun X A2 c hm hs => (rfirst_any (cap := cm) (cap2 := c) (Wa, Wb, Wc, Wd) hm (by have := HN.out; omega) hs (by have := HN.out; omega)).mono fun e w' ⟨⟨ks', h2, h1⟩, hb⟩ => by
    obtain rfl := HK3.out.unique h2
    rw [← hz] at h1
    exact ⟨by rw [h1, hzs], hb⟩
  clear hz hzs
  go_upto_region 4 with (fail)
  go_region_held3 (fun w' => Below w3.heap.size w3 w' ∧ (∀ b o, b < w3.heap.size → w'.cell? ⟨b, o, none⟩ = w3.cell? ⟨b, o, none⟩) ∧ ∀ b o, b < w3.heap.size → w'.frozen? ⟨b, o, none⟩ = w3.frozen? ⟨b, o, none⟩) (first | ((try go_split_ands); (try dsimp only); refine same_of ?_; (repeat (first | with_reducible assumption | with_reducible exact Below.refl _ _ | with_reducible refine Below.drew ?_ | with_reducible refine below_drewN ?_ _ | with_reducible refine below_alloc ?_ _ | with_reducible refine Below.alloc ?_ (by first | omega | (simp; done) | (simp; omega)) _ | with_reducible refine Below.setCell ?_ (by first | omega | (simp; done) | (simp; omega)) _ | with_reducible refine below_setRow ?_ (by first | omega | (simp; done) | (simp; omega)) _)); done) | ((try go_split_ands); (try dsimp only); refine same_of ?_; (repeat (first | with_reducible refine below_call ?_ hb4 | with_reducible refine below_call ?_ hb5 | with_reducible assumption | with_reducible exact Below.refl _ _ | with_reducible refine Below.drew ?_ | with_reducible refine below_alloc ?_ _ | with_reducible refine Below.setCell ?_ (by (try have qz_hb4 := hb4.size); (try simp only [World.size_alloc, World.size_setCell, heap_drew] at qz_hb4); (try have qz_hb5 := hb5.size); (try simp only [World.size_alloc, World.size_setCell, heap_drew] at qz_hb5); (try (obtain ⟨qy_hb4, -, -⟩ : Below _ _ w4 ∧ _ ∧ _ := by assumption; have qx_hb4 := qy_hb4.size)); (try (obtain ⟨qy_hb5, -, -⟩ : Below _ _ w5 ∧ _ ∧ _ := by assumption; have qx_hb5 := qy_hb5.size)); first | omega | (dsimp only; omega)) _)); done)) (first | (go_at_call 11; refine (HPL.out _ (by repeat (first | with_reducible assumption | with_reducible exact Below.refl _ _ | with_reducible refine Below.drew ?_ | with_reducible refine below_drewN ?_ _ | with_reducible refine below_alloc ?_ _ | with_reducible refine Below.alloc ?_ (by first | omega | (simp; done) | (simp; omega)) _ | with_reducible refine Below.setCell ?_ (by first | omega | (simp; done) | (simp; omega)) _ | with_reducible refine below_setRow ?_ (by first | omega | (simp; done) | (simp; omega)) _))).mono ?_; rintro e w4 ⟨⟨A4, c4, rfl, hs4⟩, hb4⟩; obtain ⟨hc4, hf4⟩ := bcell hb4; have D4 : Below w3.heap.size w3 w4 := Below.trans (by repeat (first | with_reducible assumption | with_reducible exact Below.refl _ _ | with_reducible refine Below.drew ?_ | with_reducible refine below_drewN ?_ _ | with_reducible refine below_alloc ?_ _ | with_reducible refine Below.alloc ?_ (by first | omega | (simp; done) | (simp; omega)) _ | with_reducible refine Below.setCell ?_ (by first | omega | (simp; done) | (simp; omega)) _ | with_reducible refine below_setRow ?_ (by first | omega | (simp; done) | (simp; omega)) _)) (hb4.mono (Below.size (B := w3.heap.size) (w := w3) (by repeat (first | with_reducible assumption | with_reducible exact Below.refl _ _ | with_reducible refine Below.drew ?_ | with_reducible refine below_drewN ?_ _ | with_reducible refine below_alloc ?_ _ | with_reducible refine Below.alloc ?_ (by first | omega | (simp; done) | (simp; omega)) _ | with_reducible refine Below.setCell ?_ (by first | omega | (simp; done) | (simp; omega)) _ | with_reducible refine below_setRow ?_ (by first | omega | (simp; done) | (simp; omega)) _)))); have hm4 := HM3.out.below D4) | (go_at_call 16; refine (HRO.out _ _ _ (hm4.below (by repeat (first | with_reducible assumption | with_reducible exact Below.refl _ _ | with_reducible refine Below.drew ?_ | with_reducible refine below_drewN ?_ _ | with_reducible refine below_alloc ?_ _ | with_reducible refine Below.alloc ?_ (by first | omega | (simp; done) | (simp; omega)) _ | with_reducible refine Below.setCell ?_ (by first | omega | (simp; done) | (simp; omega)) _ | with_reducible refine below_setRow ?_ (by first | omega | (simp; done) | (simp; omega)) _))) (hs4.below (by repeat (first | with_reducible assumption | with_reducible exact Below.refl _ _ | with_reducible refine Below.drew ?_ | with_reducible refine below_drewN ?_ _ | with_reducible refine below_alloc ?_ _ | with_reducible refine Below.alloc ?_ (by first | omega | (simp; done) | (simp; omega)) _ | with_reducible refine Below.setCell ?_ (by first | omega | (simp; done) | (simp; omega)) _ | with_reducible refine below_setRow ?_ (by first | omega | (simp; done) | (simp; omega)) _)))).mono ?_; rintro e w5 ⟨rfl, hb5⟩; obtain ⟨hc5, hf5⟩ := bcell hb5; have D5 : Below w3.heap.size w3 w5 := D4.trans (Below.trans (Below.mono (by repeat (first | with_reducible assumption | with_reducible exact Below.refl _ _ | with_reducible refine Below.drew ?_ | with_reducible refine below_drewN ?_ _ | with_reducible refine below_alloc ?_ _ | with_reducible refine Below.alloc ?_ (by first | omega | (simp; done) | (simp; omega)) _ | with_reducible refine Below.setCell ?_ (by first | omega | (simp; done) | (simp; omega)) _ | with_reducible refine below_setRow ?_ (by first | omega | (simp; done) | (simp; omega)) _)) D4.size) (hb5.mono (Below.size (B := w3.heap.size) (w := w3) (D4.trans (by repeat (first | with_reducible assumption | with_reducible exact Below.refl _ _ | with_reducible refine Below.drew ?_ | with_reducible refine below_drewN ?_ _ | with_reducible refine below_alloc ?_ _ | with_reducible refine Below.alloc ?_ (by first | omega | (simp; done) | (simp; omega)) _ | with_reducible refine Below.setCell ?_ (by first | omega | (simp; done) | (simp; omega)) _ | with_reducible refine below_setRow ?_ (by first | omega | (simp; done) | (simp; omega)) _))))))))
  all_goals
    have B5 := hid (B3.out.trans (D5.mono B3.out.size))
    have hz : (ze == ze) = true := by simp
    have hs : (zs.toList == zs.toList) = true := by simp
    clear y0 y1 y2 y3 hc4 hf4 hc5 hf5 hs4 hm4 HPL HRO hb4 hb5 D4 D5
    go_wp2
    go_ret
    exact ⟨by first | rfl | simp, B5.out⟩
end Go.Proofs.Yteccpjijlkjneaa
