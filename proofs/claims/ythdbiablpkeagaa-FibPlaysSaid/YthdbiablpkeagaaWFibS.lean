/- FibSorts' walk: keys that are put in come out in order, each once. -/
import Derived.Test.YthdbiablpkeagaaFibK
namespace Go.Proofs.Ythdbiablpkeagaa
open Go.RowKit
/-- Loop 1: q keys were put in. -/
structure InS (B : Nat) (wr : World) (v : Value) (s : Hp) (least : Int) (q : Nat) : Prop where
  heap : HeapV B wr B v s least q
  good : Good s least q
  m : s.m = q
  th : ∀ z, s.th z = decide (z < q)
theorem InS.none {B : Nat} {w wr : World} {v : Value} {s : Hp} {least : Int} {q : Nat} (h : InS B w v s least q) (hb : Below w.heap.size w wr) : InS B wr v s least q := ⟨h.heap.below hb, h.good, h.m, h.th⟩
theorem InS.some {B : Nat} {wr : World} {v' : Value} {s s' : Hp} {k : K3} {least' : Int} {q : Nat} (hm : s.m = q) (ht : ∀ z, s.th z = decide (z < q)) (h : HeapV B wr B v' s' least' ((q : Int) + 1)) (hg : Good s' least' ((q : Int) + 1)) (hs : SameK (s.insS k) s') : InS B wr v' s' least' (q + 1) := by
  have e : (q : Int) + 1 = ((q + 1 : Nat) : Int) := by omega
  rw [e] at h hg
  refine ⟨h, hg, by rw [hs.1]; show s.m + 1 = q + 1; omega, fun z => ?_⟩
  rw [hs.2.2]
  show up s.th s.m true z = _
  by_cases e2 : z = s.m
  · rw [e2, up_same, hm]; simp
  · rw [up_ne _ _ e2, ht z, decide_eq_decide]; omega
/-- Loop 2: what is left comes behind the last one. -/
structure OutS (B : Nat) (wr : World) (v : Value) (s : Hp) (least : Int) (q i : Nat) (last : Int) (k : K3) : Prop where
  heap : HeapV B wr B v s least ((q : Int) - i)
  good : Good s least ((q : Int) - i)
  ok : okW k
  ord : i = 0 ∨ ∃ a : Nat, last = (a : Int) ∧ okK k ∧ ∀ z, s.th z = true → Ltk k a (s.key z) z
theorem OutS.next {B : Nat} {w wr : World} {v : Value} {s s4 : Hp} {least least4 : Int} {q i x : Nat} {last : Int} {k : K3} (_h : OutS B w v s least q i last k) (hmin : ∀ z, s.th z = true → z = x ∨ s.lt x z) (kx : okK (s.key x)) (h4 : HeapV B wr B v s4 least4 ((q : Int) - i - 1)) (g4 : Good s4 least4 ((q : Int) - i - 1)) (sk : SameK (s.clear x) s4) : OutS B wr v s4 least4 q (i + 1) (x : Int) (s.key x) := by
  have e : (q : Int) - i - 1 = (q : Int) - ((i + 1 : Nat) : Int) := by omega
  rw [e] at h4 g4
  refine ⟨h4, g4, kx.wd, .inr ⟨x, rfl, kx, fun z hz => ?_⟩⟩
  rw [sk.2.2] at hz
  have hz2 : up s.th x false z = true := hz
  have hzx : z ≠ x := fun e => by rw [e, up_same] at hz2; cases hz2
  rw [up_ne _ _ hzx] at hz2
  rw [sk.2.1]
  show Ltk (s.key x) x (up s.key x (0, 0, 0) z) z
  rw [up_ne _ _ hzx]
  exact (hmin z hz2).resolve_left hzx
theorem HeapV.setO {B H p d : Nat} {w : World} {v u : Value} {s : Hp} {least n : Int} (h : HeapV B w H v s least n) (hp : ¬ FootV H v p) : HeapV B (w.setCell ⟨p, d, none⟩ u) H v s least n :=
  h.at fun k hk => heap_setCell_other w ⟨p, d, none⟩ k u (fun e => hp (by
    have e2 : k = p := e
    rw [← e2]; exact hk))
theorem keepKK {W w' : World} {p p2 : Nat} {k l : K3} {t t2 : TypeId} (hP : W.heap[p]? = some (.cells #[.int .u64 k.1, .int .u64 k.2.1, .int .i64 k.2.2] t (0, 0))) (hX : W.heap[p2]? = some (.cells #[.int .u64 l.1, .int .u64 l.2.1, .int .i64 l.2.2] t2 (0, 0))) (h : Below W.heap.size W w') :
    w'.cell? ⟨p, 0, none⟩ = some (.int .u64 k.1) ∧ w'.cell? ⟨p, 1, none⟩ = some (.int .u64 k.2.1) ∧ w'.cell? ⟨p, 2, none⟩ = some (.int .i64 k.2.2) ∧ w'.cell? ⟨p2, 0, none⟩ = some (.int .u64 l.1) ∧ w'.cell? ⟨p2, 1, none⟩ = some (.int .u64 l.2.1) ∧ w'.cell? ⟨p2, 2, none⟩ = some (.int .i64 l.2.2) := by
  have a := below_at h (lt_of_at hP) hP
  have b := below_at h (lt_of_at hX) hX
  exact ⟨(blk_cell a 0).trans rfl, (blk_cell a 1).trans rfl, (blk_cell a 2).trans rfl, (blk_cell b 0).trans rfl, (blk_cell b 1).trans rfl, (blk_cell b 2).trans rfl⟩
set_option maxRecDepth 100000 in
set_option maxHeartbeats 8000000 in
theorem fibSorts_any (A : Option Addr) (n cap : Nat) (l : List K3) (w : World) (hs : SlK w A n l) (hn : n ≤ maxLen) :
    Calls Try.prog 3 #[.slice A n cap] w fun e w' => e = .returned (.bool true) ∧ Below w.heap.size w w' := by
  have HS := hid hs
  have HNM := hid hn
  clear hs hn
  go_enter Try.func3, Try.ntmps3
  go_wp2_with fail
  refine (awake_g w).mono ?_
  rintro e w1 ⟨rfl, hb1⟩
  have B1 := hid hb1
  clear hb1
  by_cases hn : n ≤ 1000
  · have hni : ¬ (1000 : Int) < (n : Int) := by omega
    have HN : Hid (n ≤ 1000) := hn
    go_wp2_with fail
    refine (newh_g w1.heap.size w1 (Nat.le_refl _)).mono ?_
    rintro e w2 ⟨rfl, hb2, h2⟩
    have B2 := hid (B1.out.trans (hb2.mono B1.out.size))
    have I2 : Hid (InS w1.heap.size w2 (.slice none 0 0) hp0 0 0) := ⟨h2, good0, rfl, fun z => by simp [hp0]⟩
    obtain ⟨c, hc⟩ : ∃ c, c = w1.heap.size := ⟨_, rfl⟩
    have Z : Hid (w.heap.size ≤ c) := by rw [hc]; exact B1.out.size
    rw [← hc] at I2 ⊢
    clear hb2 h2 hc B1 w1
    go_wp2_with fail
    go_loopw [4, 5] (fun qv iv wr => ∃ (i q : Nat) (v : Value) (s : Hp) (least : Int), i ≤ n ∧ q ≤ i ∧ qv = .int .i64 q ∧ iv = .int .i64 i ∧ Hid (InS c wr v s least q) ∧ Hid (Below w.heap.size w wr)) (fun _ iv _ => n - (intOf iv).toNat)
    case atStart => exact ⟨0, 0, _, hp0, 0, Nat.zero_le _, Nat.le_refl _, rfl, rfl, I2, B2⟩
    case round =>
      clear I2 B2
      obtain ⟨i, q, v, s, least, hi, hq, rfl, rfl, HI, HB⟩ := hrel
      by_cases hin : i < n
      · have HK1 : Hid (i + 1 ≤ n) := hin
        have HMS : Hid (n - (i + 1) < n - i) := by unfold Hid; omega
        have hii : (i : Int) < (n : Int) := by omega
        have hib : (i : Int) ≤ 1000 := by have := HN.out; omega
        have hqb : (q : Int) ≤ 1000 := by have := HN.out; omega
        have HQ1 : Hid (q ≤ i) := hq
        obtain ⟨x, b, off, -, hw, -, rfl, z0, z1, z2, hbl⟩ := HS.out.one HB.out hin
        obtain ⟨k0, k1, k2⟩ := x
        simp only at z0 z1 z2
        have hbr : b < wr.heap.size := Nat.lt_of_lt_of_le hbl HB.out.size
        clear hi hq hin hn hni
        by_cases hk : k1 = 0
        · subst hk
          go_wp2_with fail
          refine (insert_form HI.out.heap k0 k2).mono ?_
          rintro e w3 ⟨rfl, hb3⟩
          have y1 : w3.cell? ⟨b, off + i * 3 + 1, none⟩ = some (.int .u64 0) := (hb3.cell (p := ⟨b, off + i * 3 + 1, none⟩) hbr).trans z1
          have HI3 := hid (HI.out.none hb3)
          have HB3 := hid (HB.out.trans (hb3.mono HB.out.size))
          clear hb3 z0 z1 z2
          go_wp2
          go_roundw
          case rel => exact ⟨i + 1, q, v, s, least, HK1.out, by have := HQ1.out; omega, rfl, by go_num, HI3, HB3⟩
          case measure => have := HMS.out; simp [intOf]; omega
        · have hkp : 0 < k1 := by have := hw.2.2.1; simp only at this; omega
          have HKK : Hid (okK (k0, k1, k2)) := ⟨⟨hw.1, hw.2.1, hw.2.2.2⟩, hkp⟩
          have hins := insert_ok (k0, k1, k2) HI.out.heap HI.out.good HKK.out (by rw [HI.out.m]; omega)
          rw [HI.out.m] at hins
          simp only at hins
          have HINS := hid hins
          clear hins hk hw
          go_wp2_with fail
          refine HINS.out.mono ?_
          rintro e w3 ⟨rfl, v3, s3, least3, h3, g3, sk3, -, t3⟩
          have hb3 := t3.below HI.out.heap.le HI.out.heap.foot
          have y1 : w3.cell? ⟨b, off + i * 3 + 1, none⟩ = some (.int .u64 k1) := (hb3.cell (p := ⟨b, off + i * 3 + 1, none⟩) (Nat.lt_of_lt_of_le hbl Z.out)).trans z1
          have HI3 : Hid (InS c w3 v3 s3 least3 (q + 1)) := InS.some HI.out.m HI.out.th h3 g3 sk3
          have HB3 := hid (HB.out.trans (hb3.mono Z.out))
          clear hb3 z0 z1 z2 h3 g3 sk3 t3 HINS HI
          go_wp2
          go_roundw
          case rel => exact ⟨i + 1, q + 1, v3, s3, least3, HK1.out, by have := HQ1.out; omega, by go_num, by go_num, HI3, HB3⟩
          case measure => have := HMS.out; simp [intOf]; omega
      · obtain rfl : i = n := by omega
        have hqb : q ≤ 1000 := by omega
        have hqi : (q : Int) ≤ 1000 := by omega
        clear hin hi hq hni hn
        go_upto_region 15 with (fail)
        refine wp_name ?_
        intro w3 hw3
        have b3 : Below wr.heap.size wr w3 := by rw [hw3]; exact (by repeat (first | with_reducible assumption | with_reducible exact Below.refl _ _ | with_reducible refine Below.drew ?_ | with_reducible refine below_drewN ?_ _ | with_reducible refine below_alloc ?_ _ | with_reducible refine Below.alloc ?_ (by first | omega | (simp; done) | (simp; omega)) _ | with_reducible refine Below.setCell ?_ (by first | omega | (simp; done) | (simp; omega)) _ | with_reducible refine below_setRow ?_ (by first | omega | (simp; done) | (simp; omega)) _))
        have P3 : w3.heap[wr.heap.size]? = some (.cells #[.int .u64 0, .int .u64 0, .int .i64 0] 36 (0, 0)) := by rw [hw3]; exact at_of (by apply Exists.intro; refine ⟨?_, ?_⟩; (focus ((repeat (first | (with_reducible assumption) | (with_reducible exact alloc_at _ _) | ((with_reducible apply alloc_at'); (simp; done)) | (with_reducible apply alloc_at_lt) | (with_reducible apply heap_drew_at) | (with_reducible apply heap_drewN_at) | (with_reducible apply heap_setCell_same) | ((with_reducible apply heap_set_ne); (first | omega | (dsimp only; omega) | (simp; done) | (simp; omega))) | (with_reducible apply setRow_at) | ((with_reducible apply setRow_ne); (first | omega | (dsimp only; omega) | (simp; done) | (simp; omega))))))); simp)
        obtain ⟨p, hp⟩ : ∃ p, p = wr.heap.size := ⟨_, rfl⟩
        rw [← hp] at P3 ⊢
        have HO3 : Hid (OutS c w3 v s least q 0 (-1) (0, 0, 0)) := ⟨by simpa using HI.out.heap.below b3, by simpa using HI.out.good, ⟨by decide, by decide, by decide, by decide⟩, .inl rfl⟩
        have HPF : Hid (¬ FootV c v p) := by
          rintro (e | e)
          · have := HI.out.heap.ltH; omega
          · have := (HI.out.heap.row.lt p e).2; omega
        have HB3 := hid (HB.out.trans (b3.mono HB.out.size))
        have HPW : Hid (w.heap.size ≤ p) := by rw [hp]; exact HB.out.size
        have HP3 := hid P3
        clear hw3 b3 P3 HI HB hp
        go_wp2_with fail
        go_loopw [8, 10] (fun lv iv wr => ∃ (i : Nat) (s : Hp) (least last : Int) (k : K3), i ≤ q ∧ lv = .int .i64 last ∧ iv = .int .i64 i ∧ Hid (OutS c wr v s least q i last k) ∧ Hid (wr.heap[p]? = some (.cells #[.int .u64 k.1, .int .u64 k.2.1, .int .i64 k.2.2] 36 (0, 0))) ∧ Hid (Below w.heap.size w wr)) (fun _ iv _ => q - (intOf iv).toNat)
        case atStart => exact ⟨0, s, least, -1, (0, 0, 0), Nat.zero_le _, rfl, rfl, HO3, HP3, HB3⟩
        case round =>
          clear HO3 HP3 HB3
          obtain ⟨i, s, least, last, k, hi, rfl, rfl, HO, HP, HB⟩ := hrel
          by_cases hiq : i < q
          · have HK1 : Hid (i + 1 ≤ q) := hiq
            have HMS : Hid (q - (i + 1) < q - i) := by unfold Hid; omega
            obtain ⟨x, tx, hx, kx, hmin, hpop⟩ := pop_v HO.out.heap HO.out.good (by omega)
            have hp1 := hpop wr (Below.refl _ _)
            unfold keyV at hp1
            have HNX : Hid (∀ W s4 least4, HeapV c W c v s4 least4 ((q : Int) - i - 1) → Good s4 least4 ((q : Int) - i - 1) → SameK (s.clear x) s4 → OutS c W v s4 least4 q (i + 1) (x : Int) (s.key x)) := fun W s4 least4 a1 a2 a3 => HO.out.next hmin kx a1 a2 a3
            have HCM : Hid (i = 0 ∨ (0 < i ∧ compI k (s.key x) < 0) ∨ (0 < i ∧ compI k (s.key x) = 0 ∧ last < (x : Int))) := by
              rcases HO.out.ord with e | ⟨a, el, ka, ho⟩
              · exact .inl e
              · obtain ⟨c1, c2⟩ := comp_le ka kx (ho x tx)
                rcases Nat.eq_zero_or_pos i with e | e
                · exact .inl e
                · by_cases c3 : compI k (s.key x) = 0
                  · exact .inr (.inr ⟨e, c3, by have := c2 c3; omega⟩)
                  · exact .inr (.inl ⟨e, by omega⟩)
            have HKW := hid HO.out.ok
            have HXW := hid kx.wd
            obtain ⟨kx', hkx⟩ : ∃ kx', kx' = s.key x := ⟨_, rfl⟩
            rw [← hkx] at hp1 HNX HCM HXW
            have HPOP := hid hp1
            have hiqi : (i : Int) < (q : Int) := by omega
            have hib : (i : Int) ≤ 1000 := by omega
            clear hpop hmin kx tx hi hiq hkx hp1
            go_wp2_with fail
            refine HPOP.out.mono ?_
            rintro e w4 ⟨rfl, s4, least4, h4, g4, sk4, t4⟩
            have hb4 := t4.below HO.out.heap.le HO.out.heap.foot
            have HB4 := hid (HB.out.trans (hb4.mono Z.out))
            have HP4 := hid ((t4.kept p (lt_of_at HP.out) HPF.out).trans HP.out)
            have HH4 := hid h4
            have HG4 := hid g4
            have HS4 := hid sk4
            clear h4 g4 sk4 t4 hb4 HPOP HO HP HB
            go_upto_region 19 with (fail)
            refine wp_name ?_
            intro w5 hw5
            have b5 : Below w4.heap.size w4 w5 := by rw [hw5]; exact (by repeat (first | with_reducible assumption | with_reducible exact Below.refl _ _ | with_reducible refine Below.drew ?_ | with_reducible refine below_drewN ?_ _ | with_reducible refine below_alloc ?_ _ | with_reducible refine Below.alloc ?_ (by first | omega | (simp; done) | (simp; omega)) _ | with_reducible refine Below.setCell ?_ (by first | omega | (simp; done) | (simp; omega)) _ | with_reducible refine below_setRow ?_ (by first | omega | (simp; done) | (simp; omega)) _))
            have X5 : w5.heap[w4.heap.size]? = some (.cells #[.int .u64 kx'.1, .int .u64 kx'.2.1, .int .i64 kx'.2.2] 33 (0, 0)) := by rw [hw5]; exact at_of (by apply Exists.intro; refine ⟨?_, ?_⟩; (focus ((repeat (first | (with_reducible assumption) | (with_reducible exact alloc_at _ _) | ((with_reducible apply alloc_at'); (simp; done)) | (with_reducible apply alloc_at_lt) | (with_reducible apply heap_drew_at) | (with_reducible apply heap_drewN_at) | (with_reducible apply heap_setCell_same) | ((with_reducible apply heap_set_ne); (first | omega | (dsimp only; omega) | (simp; done) | (simp; omega))) | (with_reducible apply setRow_at) | ((with_reducible apply setRow_ne); (first | omega | (dsimp only; omega) | (simp; done) | (simp; omega))))))); simp)
            have P5 := below_at b5 (lt_of_at HP4.out) HP4.out
            obtain ⟨p2, hp2⟩ : ∃ p2, p2 = w4.heap.size := ⟨_, rfl⟩
            rw [← hp2] at X5 ⊢
            have HB5 := hid (HB4.out.trans (b5.mono HB4.out.size))
            have HH5 := hid (HH4.out.below b5)
            have HX5 := hid X5
            have HP5 := hid P5
            have hne2 : p ≠ p2 := by have := lt_of_at HP4.out; omega
            clear hw5 b5 X5 P5 hp2 HP4 HH4 HB4
            go_region_held3 (fun w' => w'.cell? ⟨p, 0, none⟩ = some (.int .u64 k.1) ∧ w'.cell? ⟨p, 1, none⟩ = some (.int .u64 k.2.1) ∧ w'.cell? ⟨p, 2, none⟩ = some (.int .i64 k.2.2) ∧ w'.cell? ⟨p2, 0, none⟩ = some (.int .u64 kx'.1) ∧ w'.cell? ⟨p2, 1, none⟩ = some (.int .u64 kx'.2.1) ∧ w'.cell? ⟨p2, 2, none⟩ = some (.int .i64 kx'.2.2)) (((try go_split_ands); (try dsimp only); refine keepKK HP5.out HX5.out ?_; (repeat (first | with_reducible assumption | with_reducible exact Below.refl _ _ | with_reducible refine Below.drew ?_ | with_reducible refine below_drewN ?_ _ | with_reducible refine below_alloc ?_ _ | with_reducible refine Below.alloc ?_ (by first | omega | (simp; done) | (simp; omega)) _ | with_reducible refine Below.setCell ?_ (by first | omega | (simp; done) | (simp; omega)) _ | with_reducible refine below_setRow ?_ (by first | omega | (simp; done) | (simp; omega)) _)))) (first | (go_at_call 13; refine (plain_g _ _ _ _).mono ?_; rintro e w91 ⟨rfl, b91⟩; have D91 : Below w5.heap.size w5 w91 := Below.trans (by repeat (first | with_reducible assumption | with_reducible exact Below.refl _ _ | with_reducible refine Below.drew ?_ | with_reducible refine below_drewN ?_ _ | with_reducible refine below_alloc ?_ _ | with_reducible refine Below.alloc ?_ (by first | omega | (simp; done) | (simp; omega)) _ | with_reducible refine Below.setCell ?_ (by first | omega | (simp; done) | (simp; omega)) _ | with_reducible refine below_setRow ?_ (by first | omega | (simp; done) | (simp; omega)) _)) (b91.mono (Below.size (B := w5.heap.size) (w := w5) (by repeat (first | with_reducible assumption | with_reducible exact Below.refl _ _ | with_reducible refine Below.drew ?_ | with_reducible refine below_drewN ?_ _ | with_reducible refine below_alloc ?_ _ | with_reducible refine Below.alloc ?_ (by first | omega | (simp; done) | (simp; omega)) _ | with_reducible refine Below.setCell ?_ (by first | omega | (simp; done) | (simp; omega)) _ | with_reducible refine below_setRow ?_ (by first | omega | (simp; done) | (simp; omega)) _))))) | (go_at_call 12; refine (comp_g k kx' _ HKW.out HXW.out).mono ?_; rintro e w92 ⟨rfl, b92⟩; have D92 : Below w5.heap.size w5 w92 := Below.trans (by repeat (first | with_reducible assumption | with_reducible exact Below.refl _ _ | with_reducible refine Below.drew ?_ | with_reducible refine below_drewN ?_ _ | with_reducible refine below_alloc ?_ _ | with_reducible refine Below.alloc ?_ (by first | omega | (simp; done) | (simp; omega)) _ | with_reducible refine Below.setCell ?_ (by first | omega | (simp; done) | (simp; omega)) _ | with_reducible refine below_setRow ?_ (by first | omega | (simp; done) | (simp; omega)) _)) (b92.mono (Below.size (B := w5.heap.size) (w := w5) (by repeat (first | with_reducible assumption | with_reducible exact Below.refl _ _ | with_reducible refine Below.drew ?_ | with_reducible refine below_drewN ?_ _ | with_reducible refine below_alloc ?_ _ | with_reducible refine Below.alloc ?_ (by first | omega | (simp; done) | (simp; omega)) _ | with_reducible refine Below.setCell ?_ (by first | omega | (simp; done) | (simp; omega)) _ | with_reducible refine below_setRow ?_ (by first | omega | (simp; done) | (simp; omega)) _))))))
            all_goals
              have HB9 := hid (HB5.out.trans (D92.mono HB5.out.size))
              have HH9 := hid (HH5.out.below D92)
              have HX9 := hid (below_at D92 (lt_of_at HX5.out) HX5.out)
              have HP9 := hid (below_at D92 (lt_of_at HP5.out) HP5.out)
              have HL : Hid (Calls Try.prog 14 #[.pointer (some ⟨c, 0, none⟩)] w92 fun e w' => e = .returned (.int .i64 ((q : Int) - 1 - i)) ∧ w92 = w') := by
                have := len_g HH9.out
                rw [show (q : Int) - i - 1 = (q : Int) - 1 - i by omega] at this
                exact this
              have jw1 : IntKind.i64.wrap ((q : Int) - 1) = (q : Int) - 1 := IntWalk.i64_in _ (by omega)
              have jw2 : IntKind.i64.wrap ((q : Int) - 1 - i) = (q : Int) - 1 - i := IntWalk.i64_in _ (by omega)
              generalize compI k kx' = cc at HCM ⊢
              clear D91 D92 b91 b92 HB5 HH5 HX5 HP5
              rcases HCM.out with e | ⟨e, hc⟩ | ⟨e, hc, hlx⟩
              · subst e
                go_wp2_with fail
                refine HL.out.mono ?_
                rintro e w6 ⟨rfl, rfl⟩
                obtain ⟨-, -, -, x0, x1, x2⟩ := keepKK HP9.out HX9.out (Below.refl _ _)
                have pl := lt_of_at HP9.out
                go_wp2_with fail
                refine (plain_g _ _ _ _).mono ?_
                rintro e w7 ⟨rfl, hb7⟩
                have HB7 := hid (HB9.out.trans (hb7.mono HB9.out.size))
                have HH7 := hid (HH9.out.below hb7)
                have HP7 := hid (below_at hb7 pl HP9.out)
                have c0 : w7.cell? ⟨p, 0, none⟩ = some (.int .u64 k.1) := (blk_cell HP7.out 0).trans rfl
                have c1 : w7.cell? ⟨p, 1, none⟩ = some (.int .u64 k.2.1) := (blk_cell HP7.out 1).trans rfl
                have c2 : w7.cell? ⟨p, 2, none⟩ = some (.int .i64 k.2.2) := (blk_cell HP7.out 2).trans rfl
                have cf := blk_free HP7.out
                clear x0 x1 x2 hb7 pl
                go_wp2
                go_roundw
                case rel =>
                  have hP := HP7.out
                  have hB := HB7.out
                  have hpw := HPW.out
                  exact ⟨1, s4, least4, x, kx', HK1.out, rfl, rfl, hid (HNX.out _ s4 least4 (((HH7.out.setO HPF.out).setO HPF.out).setO HPF.out) HG4.out HS4.out), hid (at_of (by apply Exists.intro; refine ⟨?_, ?_⟩; (focus ((repeat (first | (with_reducible assumption) | (with_reducible exact alloc_at _ _) | ((with_reducible apply alloc_at'); (simp; done)) | (with_reducible apply alloc_at_lt) | (with_reducible apply heap_drew_at) | (with_reducible apply heap_drewN_at) | (with_reducible apply heap_setCell_same) | ((with_reducible apply heap_set_ne); (first | omega | (dsimp only; omega) | (simp; done) | (simp; omega))) | (with_reducible apply setRow_at) | ((with_reducible apply setRow_ne); (first | omega | (dsimp only; omega) | (simp; done) | (simp; omega))))))); simp)), hid (by repeat (first | with_reducible assumption | with_reducible exact Below.refl _ _ | with_reducible refine Below.drew ?_ | with_reducible refine below_drewN ?_ _ | with_reducible refine below_alloc ?_ _ | with_reducible refine Below.alloc ?_ (by first | omega | (simp; done) | (simp; omega)) _ | with_reducible refine Below.setCell ?_ (by first | omega | (simp; done) | (simp; omega)) _ | with_reducible refine below_setRow ?_ (by first | omega | (simp; done) | (simp; omega)) _))⟩
                case measure => have := HK1.out; simp [intOf]; omega
              · have ei : (0 : Int) < (i : Int) := by omega
                have ec : ¬ (0 : Int) < cc := by omega
                have ec2 : (cc == 0) = false := by simp; omega
                clear hc
                go_wp2_with fail
                refine HL.out.mono ?_
                rintro e w6 ⟨rfl, rfl⟩
                obtain ⟨-, -, -, x0, x1, x2⟩ := keepKK HP9.out HX9.out (Below.refl _ _)
                have pl := lt_of_at HP9.out
                go_wp2_with fail
                refine (plain_g _ _ _ _).mono ?_
                rintro e w7 ⟨rfl, hb7⟩
                have HB7 := hid (HB9.out.trans (hb7.mono HB9.out.size))
                have HH7 := hid (HH9.out.below hb7)
                have HP7 := hid (below_at hb7 pl HP9.out)
                have c0 : w7.cell? ⟨p, 0, none⟩ = some (.int .u64 k.1) := (blk_cell HP7.out 0).trans rfl
                have c1 : w7.cell? ⟨p, 1, none⟩ = some (.int .u64 k.2.1) := (blk_cell HP7.out 1).trans rfl
                have c2 : w7.cell? ⟨p, 2, none⟩ = some (.int .i64 k.2.2) := (blk_cell HP7.out 2).trans rfl
                have cf := blk_free HP7.out
                clear x0 x1 x2 hb7 pl
                go_wp2
                go_roundw
                case rel =>
                  have hP := HP7.out
                  have hB := HB7.out
                  have hpw := HPW.out
                  exact ⟨i + 1, s4, least4, x, kx', HK1.out, rfl, by go_num, hid (HNX.out _ s4 least4 (((HH7.out.setO HPF.out).setO HPF.out).setO HPF.out) HG4.out HS4.out), hid (at_of (by apply Exists.intro; refine ⟨?_, ?_⟩; (focus ((repeat (first | (with_reducible assumption) | (with_reducible exact alloc_at _ _) | ((with_reducible apply alloc_at'); (simp; done)) | (with_reducible apply alloc_at_lt) | (with_reducible apply heap_drew_at) | (with_reducible apply heap_drewN_at) | (with_reducible apply heap_setCell_same) | ((with_reducible apply heap_set_ne); (first | omega | (dsimp only; omega) | (simp; done) | (simp; omega))) | (with_reducible apply setRow_at) | ((with_reducible apply setRow_ne); (first | omega | (dsimp only; omega) | (simp; done) | (simp; omega))))))); simp)), hid (by repeat (first | with_reducible assumption | with_reducible exact Below.refl _ _ | with_reducible refine Below.drew ?_ | with_reducible refine below_drewN ?_ _ | with_reducible refine below_alloc ?_ _ | with_reducible refine Below.alloc ?_ (by first | omega | (simp; done) | (simp; omega)) _ | with_reducible refine Below.setCell ?_ (by first | omega | (simp; done) | (simp; omega)) _ | with_reducible refine below_setRow ?_ (by first | omega | (simp; done) | (simp; omega)) _))⟩
                case measure => have := HMS.out; simp [intOf]; omega
              · have ei : (0 : Int) < (i : Int) := by omega
                subst hc
                have ec : ¬ ((x : Int) ≤ last) := by omega
                go_wp2_with fail
                refine HL.out.mono ?_
                rintro e w6 ⟨rfl, rfl⟩
                obtain ⟨-, -, -, x0, x1, x2⟩ := keepKK HP9.out HX9.out (Below.refl _ _)
                have pl := lt_of_at HP9.out
                go_wp2_with fail
                refine (plain_g _ _ _ _).mono ?_
                rintro e w7 ⟨rfl, hb7⟩
                have HB7 := hid (HB9.out.trans (hb7.mono HB9.out.size))
                have HH7 := hid (HH9.out.below hb7)
                have HP7 := hid (below_at hb7 pl HP9.out)
                have c0 : w7.cell? ⟨p, 0, none⟩ = some (.int .u64 k.1) := (blk_cell HP7.out 0).trans rfl
                have c1 : w7.cell? ⟨p, 1, none⟩ = some (.int .u64 k.2.1) := (blk_cell HP7.out 1).trans rfl
                have c2 : w7.cell? ⟨p, 2, none⟩ = some (.int .i64 k.2.2) := (blk_cell HP7.out 2).trans rfl
                have cf := blk_free HP7.out
                clear x0 x1 x2 hb7 pl
                go_wp2
                go_roundw
                case rel =>
                  have hP := HP7.out
                  have hB := HB7.out
                  have hpw := HPW.out
                  exact ⟨i + 1, s4, least4, x, kx', HK1.out, rfl, by go_num, hid (HNX.out _ s4 least4 (((HH7.out.setO HPF.out).setO HPF.out).setO HPF.out) HG4.out HS4.out), hid (at_of (by apply Exists.intro; refine ⟨?_, ?_⟩; (focus ((repeat (first | (with_reducible assumption) | (with_reducible exact alloc_at _ _) | ((with_reducible apply alloc_at'); (simp; done)) | (with_reducible apply alloc_at_lt) | (with_reducible apply heap_drew_at) | (with_reducible apply heap_drewN_at) | (with_reducible apply heap_setCell_same) | ((with_reducible apply heap_set_ne); (first | omega | (dsimp only; omega) | (simp; done) | (simp; omega))) | (with_reducible apply setRow_at) | ((with_reducible apply setRow_ne); (first | omega | (dsimp only; omega) | (simp; done) | (simp; omega))))))); simp)), hid (by repeat (first | with_reducible assumption | with_reducible exact Below.refl _ _ | with_reducible refine Below.drew ?_ | with_reducible refine below_drewN ?_ _ | with_reducible refine below_alloc ?_ _ | with_reducible refine Below.alloc ?_ (by first | omega | (simp; done) | (simp; omega)) _ | with_reducible refine Below.setCell ?_ (by first | omega | (simp; done) | (simp; omega)) _ | with_reducible refine below_setRow ?_ (by first | omega | (simp; done) | (simp; omega)) _))⟩
                case measure => have := HMS.out; simp [intOf]; omega
          · obtain rfl : i = q := by omega
            have h0 := HO.out.heap
            rw [show (i : Int) - i = 0 by omega] at h0
            have HPN := hid (pop_none h0 rfl)
            clear h0 hi hiq
            go_wp2_with fail
            refine HPN.out.mono ?_
            rintro e w4 ⟨rfl, hb4⟩
            have hB4 := HB.out.trans (hb4.mono HB.out.size)
            clear hb4
            unfold keyV
            go_wp2
            go_ret
            exact ⟨rfl, (by repeat (first | with_reducible assumption | with_reducible exact Below.refl _ _ | with_reducible refine Below.drew ?_ | with_reducible refine below_drewN ?_ _ | with_reducible refine below_alloc ?_ _ | with_reducible refine Below.alloc ?_ (by first | omega | (simp; done) | (simp; omega)) _ | with_reducible refine Below.setCell ?_ (by first | omega | (simp; done) | (simp; omega)) _ | with_reducible refine below_setRow ?_ (by first | omega | (simp; done) | (simp; omega)) _))⟩
  · have hni : (1000 : Int) < (n : Int) := by omega
    go_wp2_with fail
    refine (awake_g w1).mono ?_
    rintro e w2 ⟨rfl, hb2⟩
    have B2 := B1.out.trans (hb2.mono B1.out.size)
    go_wp2
    go_ret
    exact ⟨rfl, B2⟩
end Go.Proofs.Ythdbiablpkeagaa
