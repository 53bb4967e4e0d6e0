/- DagFails' walk. -/
import Derived.Test.YtolfioiccmmifaaDyD
import Derived.BigQuiet
import Derived.Deep.QuietTactic
namespace Go.Proofs.Ytolfioiccmmifaa
open Go.RowKit
variable {B H n i x id : Nat} {w w' : World} {R R' : Nat → Value} {G G' : Gr} {v : Value} {F : List Nat}
theorem fail_ok (h : GrV B w H R G) (ok : G.Ok) {x : Nat} (hs : G.st x = 1) : Calls Try.prog 17 #[.pointer (some ⟨H, 0, none⟩), .int .i64 x] w fun e w' => ∃ v', e = .returned (.tuple #[v', .int .i64 0]) ∧ w'.ownsRow w.heap.size 2 1 v' (G.failL x).length (rowD (G.failL x)) ∧ GrV B w' H R (G.fail x) ∧ Tur (FootD H R) w w' := by
  have e : (x : Int).toNat = x := by omega
  have hr := ok.rng x (by omega)
  have hz : G.has (x : Int) := ⟨⟨by omega, by omega⟩, by rw [e]; omega⟩
  refine (fail_g h ok (x : Int)).mono ?_
  intro q w' hp
  cases hp with
  | none h1 => exact absurd hz h1
  | state _ h1 => rw [e] at h1; exact absurd hs h1
  | ok _ _ h1 h2 h3 =>
    rw [e] at h1 h2
    obtain ⟨v', h4, h5⟩ := h1
    exact ⟨v', h4, h5, h2, h3⟩
theorem fail_st (h : GrV B w H R G) (ok : G.Ok) {x : Nat} (hs : G.st x = 3) : Calls Try.prog 17 #[.pointer (some ⟨H, 0, none⟩), .int .i64 x] w fun e w' => e = .returned (.tuple #[.slice none 0 0, .int .i64 10]) ∧ Below w.heap.size w w' := by
  have e : (x : Int).toNat = x := by omega
  have hr := ok.rng x (by omega)
  have hz : G.has (x : Int) := ⟨⟨by omega, by omega⟩, by rw [e]; omega⟩
  refine (fail_g h ok (x : Int)).mono ?_
  intro q w' hp
  cases hp with
  | none h1 => exact absurd hz h1
  | state _ _ h2 h3 => exact ⟨h2, h3⟩
  | ok _ h1 => rw [e, hs] at h1; cases h1
theorem row_one {b bl : Nat} {W : World} {z : Nat} (h : W.heap[bl]? = some (.cells #[.int .i64 (z : Int)] 2 (0, 0))) (hb : b ≤ bl) : W.ownsRow b 2 1 (.slice (some ⟨bl, 0, none⟩) 1 1) [z].length (rowD [z]) :=
  ⟨rfl, .inr ⟨bl, 1, _, rfl, hb, h, Nat.le_refl _, by unfold maxLen; omega, rfl, rfl⟩⟩
/-- The fourth loop's relation. -/
structure Re (b : Nat) (w wr : World) (H : Nat) (R : Nat → Value) (G : Gr) (v : Value) (M : List Nat) : Prop where
  gf : GF b wr H R G v M
  bel : Below b w wr
theorem Re.below {b : Nat} {wr : World} {M : List Nat} (h : Re b w wr H R G v M) (hb : Below wr.heap.size wr w') : Re b w w' H R G v M := ⟨h.gf.below hb, h.bel.trans (hb.mono h.gf.g.le)⟩
/-- Is a job under x, as far as its first k parents say? -/
def ubk (x i : Nat) (pa M : List Nat) (k : Nat) : Bool := decide (i = x) || (pa.take k).any (fun p => decide (p ∈ M))
theorem ubk_next {x i k p : Nat} {pa M : List Nat} (h : pa[k]? = some p) : ubk x i pa M (k + 1) = (ubk x i pa M k || decide (p ∈ M)) := by
  unfold ubk
  rw [take_next h, List.any_append, Bool.or_assoc]
  simp
theorem ubk_all (hl : Low n G) {x i : Nat} (hs : G.st i ≠ 0) {M : List Nat} (hM : M = x :: G.failL x) : ubk x i (G.pa i) M (G.pa i).length = decide (i ∈ M) := by
  have hm : ∀ p, p ∈ M ↔ (p = x ∨ G.Rch x p) := fun p => by rw [hM, List.mem_cons, hl.under]
  have h1 := gone_iff G (x := x) hs
  unfold ubk
  rw [List.take_length]
  have e : (decide (i = x) || (G.pa i).any (fun p => decide (p ∈ M))) = true ↔ (i = x ∨ ∃ p ∈ G.pa i, p = x ∨ G.Rch x p) := by
    rw [Bool.or_eq_true, decide_eq_true_eq, List.any_eq_true]
    refine or_congr Iff.rfl ⟨fun ⟨p, q1, q2⟩ => ⟨p, q1, (hm p).1 (of_decide_eq_true q2)⟩, fun ⟨p, q1, q2⟩ => ⟨p, q1, decide_eq_true ((hm p).2 q2)⟩⟩
  rw [h1, ← hm] at e
  cases q : decide (i ∈ M) with
  | true => exact e.2 (of_decide_eq_true q)
  | false =>
    rw [Bool.eq_false_iff]
    intro z
    exact absurd (e.1 z) (of_decide_eq_false q)
theorem mem_toZ {y : Nat} {M : List Nat} : ((y : Int) ∈ toZ M) ↔ y ∈ M := by
  rw [toZ_mem]
  constructor
  · rintro ⟨z, hz, e⟩
    have : z = y := by omega
    subst this
    exact hz
  · exact fun h => ⟨y, h, rfl⟩
set_option maxRecDepth 100000 in
set_option maxHeartbeats 16000000 in
theorem dagFails_any (A : Option Addr) (n cap : Nat) (id : Int) (w : World) (hs : Sl2 w A n) (hn : n ≤ maxLen) (h0 : 0 ≤ id ∧ id ≤ 255) :
    Calls Try.prog 6 #[.slice A n cap, .int .u8 id] w fun e w' => e = .returned (.bool true) ∧ Below w.heap.size w w' := by
  have HS := hid hs
  have HNM := hid hn
  have HID := hid h0
  clear hs hn h0
  go_enter Try.func6, Try.ntmps6
  go_wp2_with fail
  refine (awake_g w).mono ?_
  rintro e w1 ⟨rfl, hb1⟩
  have B1 := hid hb1
  clear hb1
  by_cases hn : n ≤ 100
  case neg =>
    have hni : (100 : Int) < (n : Int) := by omega
    go_wp2_with fail
    refine (awake_g w1).mono ?_
    rintro e w2 ⟨rfl, hb2⟩
    have B2 := B1.out.trans (hb2.mono B1.out.size)
    go_wp2
    go_ret
    exact ⟨rfl, B2⟩
  have hni : ¬ (100 : Int) < (n : Int) := by omega
  by_cases hn0 : n = 0
  case pos =>
    subst hn0
    go_wp2_with fail
    refine (awake_g w1).mono ?_
    rintro e w2 ⟨rfl, hb2⟩
    have B2 := B1.out.trans (hb2.mono B1.out.size)
    go_wp2
    go_ret
    exact ⟨rfl, B2⟩
  have hne : ((n : Int) == 0) = false := by simp; omega
  have hnb : (n : Int) ≤ 100 := by omega
  have HN : Hid (1 ≤ n ∧ n ≤ 100) := by unfold Hid; omega
  clear hn hn0
  go_wp2_with fail
  refine (new_g w.heap.size w1 B1.out.size).mono ?_
  rintro e w2 ⟨rfl, hb2, hG2⟩
  have B2 := hid (B1.out.trans (hb2.mono B1.out.size))
  obtain ⟨H, hH⟩ : ∃ H, H = w1.heap.size := ⟨_, rfl⟩
  rw [← hH] at hG2 ⊢
  have HRA : Hid (Low 0 gr0 ∧ GrV w.heap.size w2 H (fun _ => .slice none 0 0) gr0 ∧ Below w.heap.size w w2) := ⟨Low.start, hG2, B2.out⟩
  clear hb2 hG2 hH B1 B2 w1
  go_wp2_with fail
  go_loopw [6] (fun iv wr => ∃ (i : Nat) (R : Nat → Value) (G : Gr), i ≤ n ∧ iv = .int .i64 i ∧ Hid (Low i G ∧ GrV w.heap.size wr H R G ∧ Below w.heap.size w wr)) (fun iv _ => n - (intOf iv).toNat)
  case atStart => exact ⟨0, _, _, Nat.zero_le _, rfl, HRA⟩
  case round =>
    clear HRA
    obtain ⟨i, R, G, hi, rfl, HI⟩ := hrel
    by_cases hin : i < n
    · have HK1 : Hid (i + 1 ≤ n) := hin
      have HMS : Hid (n - (i + 1) < n - i) := by unfold Hid; omega
      have hii : (i : Int) < (n : Int) := by omega
      have hib : (i : Int) ≤ 100 := by omega
      obtain ⟨w3, hw3⟩ : ∃ w3, w3 = wr := ⟨_, rfl⟩
      subst hw3
      obtain ⟨b0, o0, Ai, ni, ci, rfl, hb0, hcell, hnm, hsb⟩ := HS.out.one hin
      have HCE := hid hcell
      have HSB := hid hsb
      have HNI : Hid (ni ≤ maxLen) := hnm
      have hb0w : b0 < w3.heap.size := Nat.lt_of_lt_of_le hb0 HI.out.2.2.size
      have HB0 := hid hb0
      have HZ : Hid (w.heap.size ≤ w3.heap.size) := HI.out.2.2.size
      clear hcell hsb hnm hin hi
      go_wp2_with fail
      go_loopw [7, 8] (fun lv kv wr => ∃ (k : Nat) (l : Value) (zs : List Int), k ≤ 5 ∧ l = lv ∧ kv = .int .i64 k ∧ Hid (Pz w3.heap.size wr l zs i k ∧ Below w3.heap.size w3 wr ∧ ∃ A c, l = .slice A k c)) (fun _ kv _ => 5 - (intOf kv).toNat)
      case atStart => exact ⟨0, _, [], by omega, rfl, rfl, hid ⟨Pz.start _ _ _, Below.refl _ _, none, 0, rfl⟩⟩
      case round =>
        obtain ⟨k, l, zs, hk, rfl, rfl, HP⟩ := hrel
        have HBW := hid (HI.out.2.2.trans (HP.out.2.1.mono HZ.out))
        have c0 := HCE.out wr HBW.out
        have hb0r : b0 < wr.heap.size := Nat.lt_of_lt_of_le HB0.out HBW.out.size
        obtain ⟨A7, cap7, rfl⟩ := HP.out.2.2
        have hnib : (ni : Int) ≤ 9223372036854775807 := by have := HNI.out; unfold maxLen at this; omega
        by_cases hgo : k < ni ∧ k < 5 ∧ 0 < i
        · obtain ⟨g1, g2, g3⟩ := hgo
          have q1 : (k : Int) < (ni : Int) := by omega
          have q2 : (k : Int) < 5 := by omega
          have q3 : (0 : Int) < (i : Int) := by omega
          obtain ⟨b1, o1, z, rfl, hb1, hz, z0, z1⟩ := HSB.out.one g1
          have cz := hz wr HBW.out
          have hb1r : b1 < wr.heap.size := Nat.lt_of_lt_of_le hb1 HBW.out.size
          have ec : IntKind.i64.wrap z = z := IntWalk.i64_in _ (by omega)
          obtain ⟨m, hm⟩ : ∃ m : Int, m = z % (i : Int) := ⟨_, rfl⟩
          have hm0 : 0 ≤ m := by rw [hm]; exact Int.emod_nonneg _ (by omega)
          have hm1 : m < (i : Int) := by rw [hm]; exact Int.emod_lt_of_pos _ (by omega)
          have er : z.tmod (i : Int) = m := by rw [Int.tmod_eq_emod_of_nonneg z0, hm]
          have er' : IntKind.i64.wrap m = m := IntWalk.i64_in _ (by omega)
          have hiz : ¬ (i : Int) = 0 := by omega
          obtain ⟨A8, cap8, w5, happ, hp5, hb5⟩ := HP.out.1.app (z := 1 + m) (by omega) (by omega) HP.out.2.1.size
          have HAPP := hid happ
          have HP5 := hid hp5
          have HB5 := hid (HP.out.2.1.trans hb5)
          have HK5 : Hid (k + 1 ≤ 5) := g2
          have HMS5 : Hid (5 - (k + 1) < 5 - k) := by unfold Hid; omega
          clear happ hp5 hb5 hz hm g1 g2 g3 hk HP
          go_wp2_with (first | (at_builtin; refine wpList_append_eq rfl _ _ _ rfl rfl rfl HAPP.out ?_))
          go_roundw
          case rel => exact ⟨k + 1, _, _, HK5.out, rfl, by go_num, hid ⟨HP5.out, HB5.out, _, _, rfl⟩⟩
          case measure => have := HMS5.out; simp [intOf]; omega
        · have HZS := hid HP.out.1.2.1
          have HKL : Hid (k = zs.length) := HP.out.1.2.2.symm
          have HK5 : Hid (k ≤ 5) := hk
          have hi100 : i < 100 := by have := HN.out; have := HK1.out; omega
          have HRA : Hid (Low i G ∧ GrV w.heap.size wr H R G) := ⟨HI.out.1, HI.out.2.1.below HP.out.2.1⟩
          have HADD := hid (HRA.out.1.addC (cap := cap7) HRA.out.2 hi100 HP.out.1.slz hk HP.out.1.2.1)
          have hkk : (k : Int) ≤ 5 := by omega
          clear HP hk hi100 HI
          rcases (by omega : ¬ ((k : Int) < (ni : Int)) ∨ ((k : Int) < (ni : Int) ∧ ¬ (k : Int) < 5) ∨ ((k : Int) < (ni : Int) ∧ (k : Int) < 5 ∧ ¬ (0 : Int) < (i : Int))) with q1 | ⟨q1, q2⟩ | ⟨q1, q2, q3⟩
          all_goals
            clear hgo
            go_wp2_with fail
            refine HADD.out.mono ?_
            rintro e w6 ⟨rfl, ⟨R6, g6, gr6⟩, t6, low6⟩
            have HR6 : Hid (Low (i + 1) (G.add (i + 1) (dd zs)) ∧ GrV w.heap.size w6 H R6 (G.add (i + 1) (dd zs)) ∧ Below w.heap.size w w6) := ⟨low6, g6, HBW.out.trans (HRA.out.2.belowB t6 (Nat.le_refl _))⟩
            clear g6 gr6 t6 low6 HADD HRA c0 hb0r HBW
            go_wp2
            go_roundw
            case rel => exact ⟨i + 1, _, _, HK1.out, by go_num, HR6⟩
            case measure => have := HMS.out; simp [intOf]; omega
    · obtain rfl : i = n := by omega
      have hnn : ¬ (i : Int) < (i : Int) := by omega
      obtain ⟨m, hm⟩ : ∃ m : Nat, (m : Int) = id % (i : Int) := ⟨(id % (i : Int)).toNat, by have := Int.emod_nonneg id (show (i : Int) ≠ 0 by have := HN.out; omega); omega⟩
      have hm1 : (m : Int) < (i : Int) := by rw [hm]; exact Int.emod_lt_of_pos _ (by have := HN.out; omega)
      have er : id.tmod (i : Int) = (m : Int) := by rw [Int.tmod_eq_emod_of_nonneg HID.out.1, hm]
      have er' : IntKind.i64.wrap (m : Int) = (m : Int) := IntWalk.i64_in _ (by omega)
      have ec : IntKind.i64.wrap id = id := IntWalk.i64_in _ (by have := HID.out; omega)
      have hiz : ¬ (i : Int) = 0 := by have := HN.out; omega
      have hsx : G.st (m + 1) = 1 := by rw [HI.out.1.st, if_pos (by omega)]
      have HFA := hid (fail_ok HI.out.2.1 HI.out.1.ok hsx)
      obtain ⟨x, hx⟩ : ∃ x : Nat, x = m + 1 := ⟨_, rfl⟩
      rw [← hx] at HFA hsx
      have hxe : (1 : Int) + (m : Int) = (x : Int) := by omega
      have hxr : 1 ≤ x ∧ x ≤ i := by omega
      have HXR := hid hxr
      have HSX := hid hsx
      obtain ⟨w4, hw4⟩ : ∃ w4, w4 = wr := ⟨_, rfl⟩
      subst hw4
      clear hi hin hm hsx hx hxr
      go_wp2_with fail
      refine HFA.out.mono ?_
      rintro e w5 ⟨v5, rfl, hrow5, hg5, ht5⟩
      have HLOW := hid HI.out.1
      have HOK' : Hid ((G.fail x).Ok) := HI.out.1.ok.fail HSX.out
      have HB5 := hid (HI.out.2.2.trans (HI.out.2.1.belowB ht5 (Nat.le_refl _)))
      have hz45 : w.heap.size ≤ w4.heap.size := HI.out.2.2.size
      have HG5 := hid hg5
      have HROW5 := hid (row_base hrow5 hz45)
      obtain ⟨L, hL⟩ : ∃ L, L = G.failL x := ⟨_, rfl⟩
      rw [← hL] at HROW5
      have HLE := hid hL
      have HLS : Hid (L.Pairwise (· < ·)) := by rw [hL]; exact pick_sorted _
      have HLX : Hid (∀ y ∈ L, y ≠ x) := fun y hy e => by
        rw [hL, HI.out.1.under, e] at hy
        exact HI.out.1.ok.acy x hy
      have HLL : Hid (L.length ≤ 100) := by rw [hL]; exact len100 (nodup_of_lt (pick_sorted _)) fun y hy => (HI.out.1.ok.rch ((HI.out.1.under x y).1 hy)).2
      obtain ⟨A5, cap5, rfl⟩ := row_shape HROW5.out
      have HFT5 : Hid (∀ k, FootD H R k → k < w5.heap.size) := fun k hk => (hg5.foot hk).2
      have HZ5 : Hid (w.heap.size ≤ w5.heap.size) := HB5.out.size
      have hLb : (L.length : Int) ≤ 100 := by have := HLL.out; omega
      clear hrow5 hg5 ht5 hL HFA HI hz45 er er' ec hiz
      go_upto_region 18 with (fail)
      refine wp_name ?_
      intro w6 hw6
      have b6 : Below w5.heap.size w5 w6 := by rw [hw6]; exact (by repeat (first | with_reducible assumption | with_reducible exact Below.refl _ _ | with_reducible refine Below.drew ?_ | with_reducible refine below_drewN ?_ _ | with_reducible refine below_alloc ?_ _ | with_reducible refine Below.alloc ?_ (by first | omega | (simp; done) | (simp; omega)) _ | with_reducible refine Below.setCell ?_ (by first | omega | (simp; done) | (simp; omega)) _ | with_reducible refine below_setRow ?_ (by first | omega | (simp; done) | (simp; omega)) _))
      have N6 : w6.heap[w5.heap.size]? = some (.cells #[.int .i64 (x : Int)] 2 (0, 0)) := by rw [hw6]; exact at_of (by apply Exists.intro; refine ⟨?_, ?_⟩; (focus ((repeat (first | (with_reducible assumption) | (with_reducible exact alloc_at _ _) | ((with_reducible apply alloc_at'); (simp; done)) | (with_reducible apply alloc_at_lt) | (with_reducible apply heap_drew_at) | (with_reducible apply heap_drewN_at) | (with_reducible apply heap_setCell_same) | ((with_reducible apply heap_set_ne); (first | omega | (dsimp only; omega) | (simp; done) | (simp; omega))) | (with_reducible apply setRow_at) | ((with_reducible apply setRow_ne); (first | omega | (dsimp only; omega) | (simp; done) | (simp; omega))))))); simp)
      have HRD : Hid (Rd w.heap.size w w6 H R (G.fail x) (.slice (some ⟨w5.heap.size, 0, none⟩) 1 1) (.slice A5 L.length cap5) [x] L) := by
        refine ⟨⟨HG5.out.below b6, row_one N6 HZ5.out, fun k hk q => ?_⟩, rowN_kept HROW5.out fun b hb => b6.block b (HROW5.out.lt b hb).2, fun g hg e => ?_, HB5.out.trans (b6.mono HZ5.out)⟩
        · injection hk with hk
          have h1 := HFT5.out k q
          simp only at hk
          omega
        · injection e with e
          have h1 := (HROW5.out.lt g hg).2
          simp only at e
          omega
      clear hw6 b6 N6 HG5 HROW5 HFT5 HB5 HZ5
      go_wp2_with fail
      go_loopw [12, 13] (fun fv kv wr => ∃ (k : Nat) (v : Value) (M : List Nat), k ≤ L.length ∧ v = fv ∧ kv = .int .i64 k ∧ Hid (M = x :: L.take k) ∧ Hid (Rd w.heap.size w wr H R (G.fail x) v (.slice A5 L.length cap5) M L)) (fun _ kv _ => L.length - (intOf kv).toNat)
      case atStart => exact ⟨0, _, [x], Nat.zero_le _, rfl, rfl, by unfold Hid; rw [List.take_zero], HRD⟩
      case round =>
        clear HRD
        obtain ⟨k, v, M, hk, rfl, rfl, HM, HK⟩ := hrel
        obtain ⟨A6, cap6, rfl⟩ := row_shape HK.out.gf.r
        by_cases hkn : k < L.length
        · have hkk : (k : Int) < (L.length : Int) := by omega
          have HK1 : Hid (k + 1 ≤ L.length) := hkn
          have HMK : Hid (L.length - (k + 1) < L.length - k) := by unfold Hid; omega
          obtain ⟨g5, y, rfl, hg5, cy, hmy, hy⟩ := row_elem HK.out.l hkn
          have hyx : ((y : Int) == (x : Int)) = false := by have := HLX.out y hmy; simp; omega
          have HY := hid hy
          have hMl : M.length ≤ 200 := by
            rw [HM.out, List.length_cons, List.length_take]
            have := HLL.out
            omega
          have HML := hid hMl
          have hlb : (M.length : Int) ≤ 200 := by omega
          have HAPPS : Hid (∀ q, ∃ A8 cap8 w8, (Builtin.append_ #[31, 31] 31 #[.slice A6 M.length cap6, .slice (some ⟨wr.heap.size, 0, none⟩) 1 1]).run Try.prog ((wr.drewN q).alloc (.cells #[.int .i64 (y : Int)] 2)) = .ok (.slice A8 (M.length + 1) cap8) w8 ∧ Rd w.heap.size w w8 H R (G.fail x) (.slice A8 (M.length + 1) cap8) (.slice (some ⟨g5, 0, none⟩) L.length cap5) (M ++ [y]) L) := fun q => by
            have := (HK.out.below (w' := wr.drewN q) (below_drewN (Below.refl _ _) q)).app (y := y) (by omega)
            exact this
          have hprev : 0 < k → ∃ k' p : Nat, k' + 1 = k ∧ wr.cell? ⟨g5, k', none⟩ = some (.int .i64 (p : Int)) ∧ p < y := fun h0 => by
            obtain ⟨g6, p, e, -, cp, -, hp⟩ := row_elem HK.out.l (i := k - 1) (by omega)
            injection e with e
            injection e with e
            subst e
            obtain ⟨q1, e1⟩ := getq hp
            obtain ⟨q2, e2⟩ := getq HY.out
            have := List.pairwise_iff_getElem.1 HLS.out (k - 1) k q1 q2 (by omega)
            rw [e1, e2] at this
            exact ⟨k - 1, p, by omega, cp, this⟩
          have HMN : Hid (M ++ [y] = x :: L.take (k + 1)) := by unfold Hid; rw [take_next HY.out, HM.out]; rfl
          clear hmy hy hMl hk HK
          rcases Nat.eq_zero_or_pos k with hk0 | hk0
          · subst hk0
            clear hkn
            go_upto_region 21 with (fail)
            go_quiet (fail)
            all_goals
              obtain ⟨A8, cap8, w8, happ, hrd⟩ := HAPPS.out nq
              have HAPP := hid happ
              have HRD8 := hid hrd
              clear happ hrd HAPPS
              go_wp2_with (first | (at_builtin; refine wpList_append_eq rfl _ _ _ rfl rfl rfl HAPP.out ?_))
              go_roundw
              case rel => exact ⟨1, _, M ++ [y], HK1.out, rfl, by go_num, HMN, HRD8⟩
              case measure => have := HMK.out; simp [intOf]; omega
          · obtain ⟨k', p, hkp, cp, hpy⟩ := hprev hk0
            have hk0i : (0 : Int) < (k : Int) := by omega
            have iw : IntKind.i64.wrap ((k : Int) - 1) = (k' : Int) := by rw [show (k : Int) - 1 = (k' : Int) by omega]; exact IntWalk.i64_in _ (by omega)
            have hk'l : (k' : Int) < (L.length : Int) := by omega
            have hdp : decide ((y : Int) ≤ (p : Int)) = false := decide_eq_false (by omega)
            have hdp' : decide (y ≤ p) = false := decide_eq_false (by omega)
            have hdk : decide (0 < k) = true := decide_eq_true hk0
            clear hkn hprev hkp hpy
            go_upto_region 21 with (fail)
            go_quiet (fail)
            all_goals
              obtain ⟨A8, cap8, w8, happ, hrd⟩ := HAPPS.out nq
              have HAPP := hid happ
              have HRD8 := hid hrd
              clear happ hrd HAPPS
              go_wp2_with (first | (at_builtin; refine wpList_append_eq rfl _ _ _ rfl rfl rfl HAPP.out ?_))
              go_roundw
              case rel => exact ⟨k + 1, _, M ++ [y], HK1.out, rfl, by go_num, HMN, HRD8⟩
              case measure => have := HMK.out; simp [intOf]; omega
        · obtain rfl : k = L.length := by omega
          have hkk : ¬ (L.length : Int) < (L.length : Int) := by omega
          have HM' : Hid (M = x :: G.failL x) := by have := HM.out; rw [List.take_length, HLE.out] at this; exact this
          have HRE : Hid (Re w.heap.size w wr H R (G.fail x) (.slice A6 M.length cap6) M) := ⟨HK.out.gf, HK.out.bel⟩
          have hMl : M.length ≤ 200 := by
            rw [HM'.out, List.length_cons, ← HLE.out]
            have := HLL.out
            omega
          have HML := hid hMl
          have hlb : (M.length : Int) ≤ 200 := by omega
          clear HM HK hk hkn hMl
          go_wp2_with fail
          go_loopw [14] (fun iv wr => ∃ j : Nat, 1 ≤ j ∧ j ≤ i + 1 ∧ iv = .int .i64 j ∧ Hid (Re w.heap.size w wr H R (G.fail x) (.slice A6 M.length cap6) M)) (fun iv _ => i + 1 - (intOf iv).toNat)
          case atStart => exact ⟨1, by omega, by omega, rfl, HRE⟩
          case round =>
            clear HRE
            obtain ⟨j, hj1, hj2, rfl, HJ⟩ := hrel
            by_cases hji : j ≤ i
            · have hjj : (j : Int) ≤ (i : Int) := by omega
              have hst : (G.fail x).st j ≠ 0 := by
                by_cases q : j = x ∨ (G.Rch x j ∧ G.st j = 1)
                · rw [fail_in q]; omega
                · rw [fail_out q, HLOW.out.st, if_pos (by omega)]; omega
              have hst0 : G.st j ≠ 0 := by rw [HLOW.out.st, if_pos (by omega)]; omega
              have HPA := hid (parents_yes HJ.out.gf.g HOK'.out (y := j) hj1 (by have := HN.out; omega) hst)
              have HUA := hid (ubk_all HLOW.out hst0 HM'.out)
              have HJ1 : Hid (1 ≤ j + 1 ∧ j + 1 ≤ i + 1) := by unfold Hid; omega
              have HMJ : Hid (i + 1 - (j + 1) < i + 1 - j) := by unfold Hid; omega
              have hjb : (j : Int) ≤ 100 := by omega
              have hu0 : ((j : Int) == (x : Int)) = ubk x j (G.pa j) M 0 := by
                unfold ubk
                rw [List.take_zero]
                by_cases q : j = x
                · subst q; simp
                · have : ¬ (j : Int) = (x : Int) := by omega
                  simp [q, this]
              have HU0 := hid hu0
              have HPL : Hid ((G.pa j).length ≤ 100) := HLOW.out.ok.pal j
              obtain ⟨pj, hpj⟩ : ∃ pj, pj = G.pa j := ⟨_, rfl⟩
              have epj : (G.fail x).pa j = pj := by rw [hpj]; rfl
              rw [epj] at HPA
              rw [← hpj] at HUA HU0 hu0 HPL
              obtain ⟨w7, hw7⟩ : ∃ w7, w7 = wr := ⟨_, rfl⟩
              subst hw7
              clear hst hst0 hj1 hj2 hji hpj epj
              go_wp2_with fail
              refine HPA.out.mono ?_
              rintro e w8 ⟨⟨v8, rfl, hrow8⟩, hb8⟩
              have HJ8 := hid (HJ.out.below hb8)
              have HROW8 := hid hrow8
              obtain ⟨A8, cap8, rfl⟩ := row_shape hrow8
              have hpl : (pj.length : Int) ≤ 100 := by have := HPL.out; omega
              clear hrow8 hb8 HPA HJ
              go_wp2_with fail
              go_loopw [17, 18] (fun uv kv wr => ∃ (k : Nat) (u : Bool), k ≤ pj.length ∧ uv = .bool u ∧ Hid (u = ubk x j pj M k) ∧ kv = .int .i64 k ∧ wr = w8) (fun _ kv _ => pj.length - (intOf kv).toNat)
              case atStart => exact ⟨0, _, Nat.zero_le _, rfl, hid rfl, rfl, rfl⟩
              case round =>
                obtain ⟨k, u, hk, rfl, HU, rfl, rfl⟩ := hrel
                by_cases hkn : k < pj.length
                · have hkk : (k : Int) < (pj.length : Int) := by omega
                  have HK1 : Hid (k + 1 ≤ pj.length) := hkn
                  have HMK : Hid (pj.length - (k + 1) < pj.length - k) := by unfold Hid; omega
                  obtain ⟨g9, p, rfl, hg9, cp, hmp, hp⟩ := row_elem HROW8.out hkn
                  have HUN := hid (ubk_next (x := x) (i := j) (M := M) hp)
                  have HIN := hid (in_any (cap := cap6) (p : Int) (slz_row HJ8.out.gf.r) (by have := HML.out; omega))
                  clear hmp hp hk hkn
                  cases u with
                  | true =>
                    have HUT : Hid (true = ubk x j pj M (k + 1)) := by unfold Hid; rw [HUN.out, ← HU.out]; rfl
                    go_wp2
                    go_roundw
                    case rel => exact ⟨k + 1, true, HK1.out, rfl, HUT, by go_num, by trivial⟩
                    case measure => have := HMK.out; simp [intOf]; omega
                  | false =>
                    obtain ⟨r, hr⟩ : ∃ r, r = decide ((p : Int) ∈ toZ M) := ⟨_, rfl⟩
                    rw [← hr] at HIN
                    have HUT : Hid (r = ubk x j pj M (k + 1)) := by
                      unfold Hid
                      rw [HUN.out, ← HU.out, hr, Bool.false_or, decide_eq_decide]
                      exact mem_toZ
                    clear hr HU
                    go_wp2_with fail
                    refine HIN.out.mono ?_
                    rintro e w9 ⟨rfl, rfl⟩
                    go_wp2
                    go_roundw
                    case rel => exact ⟨k + 1, r, HK1.out, rfl, HUT, by go_num, by trivial⟩
                    case measure => have := HMK.out; simp [intOf]; omega
                · obtain rfl : k = pj.length := by omega
                  have hkk : ¬ (pj.length : Int) < (pj.length : Int) := by omega
                  have HIN := hid (in_any (cap := cap6) (j : Int) (slz_row HJ8.out.gf.r) (by have := HML.out; omega))
                  have hr : decide ((j : Int) ∈ toZ M) = u := by
                    rw [HU.out, HUA.out, decide_eq_decide]
                    exact mem_toZ
                  rw [hr] at HIN
                  have huu : (u != u) = false := by cases u <;> rfl
                  clear hk hkn hr HU
                  go_wp2_with fail
                  refine HIN.out.mono ?_
                  rintro e w9 ⟨rfl, rfl⟩
                  go_wp2
                  go_roundw
                  case rel => exact ⟨j + 1, HJ1.out.1, HJ1.out.2, by go_num, HJ8⟩
                  case measure => have := HMJ.out; simp [intOf]; omega
            · have hjj : ¬ (j : Int) ≤ (i : Int) := by omega
              have hs3 : (G.fail x).st x = 3 := fail_in (.inl rfl)
              have HFS := hid (fail_st HJ.out.gf.g HOK'.out hs3)
              have HB9 := hid HJ.out.bel
              have HZ9 : Hid (w.heap.size ≤ wr.heap.size) := HJ.out.bel.size
              clear hj1 hj2 hji hs3 HJ
              go_wp2_with fail
              refine HFS.out.mono ?_
              rintro e w9 ⟨rfl, hb9⟩
              have HB10 := hid (HB9.out.trans (hb9.mono HZ9.out))
              clear hb9
              go_wp2
              go_ret
              exact ⟨rfl, HB10.out⟩
end Go.Proofs.Ytolfioiccmmifaa
