/- Chapter 12: Add, its walk. -/
import Derived.Test.YtolfioiccmmifaaDgE
namespace Go.Proofs.Ytolfioiccmmifaa
open Go.RowKit
variable {B H : Nat} {w w' : World} {R R' : Nat → Value} {G G' : Gr}
set_option maxRecDepth 100000 in
set_option maxHeartbeats 16000000 in
theorem add_g (h : GrV B w H R G) (ok : G.Ok) (id : Int) {A : Option Addr} {n cap : Nat} {zs : List Int} (hs : SlZ w A n zs) (hn : n ≤ 100000) : Calls Try.prog 11 #[.pointer (some ⟨H, 0, none⟩), .int .i64 id, .slice A n cap] w fun e w' => AddP B H w R G id zs e w' := by
  have HH := hid h
  have HOK := hid ok
  have HS := hid hs
  have HN := hid hn
  have hlH := h.ltH
  have HR1 : Hid (∀ W b c, W.heap[b]? = some (.cells #[.int .i64 id] 2 (0, 0)) → Calls Try.prog 23 #[.slice (some ⟨b, 0, none⟩) 1 c] W fun e w' => e = .returned (.bool (decide (okId id))) ∧ W = w') := fun W b c hb => right_one id W b c hb
  have HR2 : Hid (∀ W, Below w.heap.size w W → Calls Try.prog 23 #[.slice A n cap] W fun e w' => e = .returned (.bool (decide (∀ z ∈ zs, okId z))) ∧ W = w') := fun W hb => right_any (hs.below hb) (by omega)
  clear h ok hs hn
  go_enter Try.func11, Try.ntmps11
  go_wp2_with fail
  refine (HR1.out _ _ _ (by (repeat (first | (with_reducible assumption) | (with_reducible exact alloc_at _ _) | ((with_reducible apply alloc_at'); (simp; done)) | (with_reducible apply alloc_at_lt) | (with_reducible apply heap_drew_at) | (with_reducible apply heap_drewN_at) | (with_reducible apply heap_setCell_same) | ((with_reducible apply heap_set_ne); (first | omega | (dsimp only; omega) | (simp; done) | (simp; omega))) | (with_reducible apply setRow_at) | ((with_reducible apply setRow_ne); (first | omega | (dsimp only; omega) | (simp; done) | (simp; omega))))))).mono ?_
  rintro e w1 ⟨rfl, rfl⟩
  by_cases k1 : okId id
  case neg =>
    have F : Hid (¬ (okId id ∧ ∀ z ∈ zs, okId z)) := fun q => k1 q.1
    rw [decide_eq_false k1]
    clear k1
    go_wp2
    go_ret2
    exact .range F.out rfl (by repeat (first | with_reducible assumption | with_reducible exact Below.refl _ _ | with_reducible refine Below.drew ?_ | with_reducible refine below_drewN ?_ _ | with_reducible refine below_alloc ?_ _ | with_reducible refine Below.alloc ?_ (by first | omega | (simp; done) | (simp; omega)) _ | with_reducible refine Below.setCell ?_ (by first | omega | (simp; done) | (simp; omega)) _ | with_reducible refine below_setRow ?_ (by first | omega | (simp; done) | (simp; omega)) _))
  rw [decide_eq_true k1]
  have K1 := hid k1
  clear k1
  go_wp2_with fail
  refine (HR2.out _ (by repeat (first | with_reducible assumption | with_reducible exact Below.refl _ _ | with_reducible refine Below.drew ?_ | with_reducible refine below_drewN ?_ _ | with_reducible refine below_alloc ?_ _ | with_reducible refine Below.alloc ?_ (by first | omega | (simp; done) | (simp; omega)) _ | with_reducible refine Below.setCell ?_ (by first | omega | (simp; done) | (simp; omega)) _ | with_reducible refine below_setRow ?_ (by first | omega | (simp; done) | (simp; omega)) _))).mono ?_
  rintro e w1 ⟨rfl, rfl⟩
  by_cases k2 : ∀ z ∈ zs, okId z
  case neg =>
    have F : Hid (¬ (okId id ∧ ∀ z ∈ zs, okId z)) := fun q => k2 q.2
    rw [decide_eq_false k2]
    clear k2
    go_wp2
    go_ret2
    exact .range F.out rfl (by repeat (first | with_reducible assumption | with_reducible exact Below.refl _ _ | with_reducible refine Below.drew ?_ | with_reducible refine below_drewN ?_ _ | with_reducible refine below_alloc ?_ _ | with_reducible refine Below.alloc ?_ (by first | omega | (simp; done) | (simp; omega)) _ | with_reducible refine Below.setCell ?_ (by first | omega | (simp; done) | (simp; omega)) _ | with_reducible refine below_setRow ?_ (by first | omega | (simp; done) | (simp; omega)) _))
  rw [decide_eq_true k2]
  have KK : Hid (okId id ∧ ∀ z ∈ zs, okId z) := ⟨K1.out, k2⟩
  obtain ⟨y, rfl⟩ : ∃ y : Nat, id = (y : Int) := ⟨id.toNat, by have := K1.out.1; omega⟩
  have hy1 : 1 ≤ y := by have := K1.out.1; omega
  have hy2 : y ≤ 100 := by have := K1.out.2; omega
  have hyi : (y : Int) < 101 := by omega
  have HY : Hid (1 ≤ y ∧ y ≤ 100) := ⟨hy1, hy2⟩
  clear k2 K1 HR1 HR2 hy1 hy2
  go_upto_region 5 with (fail)
  refine wp_name ?_
  intro w1 hw1
  have b1 : Below w.heap.size w w1 := by rw [hw1]; exact (by repeat (first | with_reducible assumption | with_reducible exact Below.refl _ _ | with_reducible refine Below.drew ?_ | with_reducible refine below_drewN ?_ _ | with_reducible refine below_alloc ?_ _ | with_reducible refine Below.alloc ?_ (by first | omega | (simp; done) | (simp; omega)) _ | with_reducible refine Below.setCell ?_ (by first | omega | (simp; done) | (simp; omega)) _ | with_reducible refine below_setRow ?_ (by first | omega | (simp; done) | (simp; omega)) _))
  have HB1 := hid b1
  have HH1 := hid (HH.out.below b1)
  have c0 := (HH1.out.cells (i := y) (by have := HY.out; omega)).1
  clear hw1 b1
  by_cases k3 : G.st y = 0
  case neg =>
    have F : Hid (G.st ((y : Int).toNat) ≠ 0) := by rw [show ((y : Int).toNat) = y by omega]; exact k3
    have hne : ((((G.st y : Nat) : Int)) != 0) = true := by simp; omega
    generalize ((G.st y : Nat) : Int) = s at *
    clear k3
    go_wp2
    go_ret2
    exact .twice KK.out F.out rfl HB1.out
  rw [k3] at c0
  have K3 := hid k3
  have HCL := hid (clone_row (cap := cap) (HS.out.below HB1.out) (by have := HN.out; omega))
  have HS1 : Hid (w.heap.size ≤ w1.heap.size) := HB1.out.size
  clear k3
  go_wp2_with fail
  refine HCL.out.mono ?_
  rintro e w2 ⟨v2, rfl, hrow2, hb2⟩
  have HSO := hid (sort_row hrow2 (by have := HN.out; omega))
  have HB2 := hid (HB1.out.trans (hb2.mono HS1.out))
  have HR2 := hid hrow2
  clear hrow2 hb2 HCL c0
  go_wp2_with fail
  refine HSO.out.mono ?_
  rintro e w3 ⟨rfl, hrow3, hg3⟩
  have HB3 := hid (HB2.out.trans (Tur.below (Tur.of_grown (F := fun b => v2.ownBlock = some b) hg3 (fun g hg => .inl hg)) HB2.out.size (fun k hk => Nat.le_trans HS1.out (HR2.out.lt k hk).1)))
  have HCO := hid (compact_row hrow3 (by have := HN.out; omega))
  have HR3 := hid hrow3
  clear hrow3 hg3 HSO HR2 HB2
  go_wp2_with fail
  refine HCO.out.mono ?_
  rintro e w4 ⟨v4, rfl, hrow4, hown4, hg4⟩
  have HB4 := hid (HB3.out.trans (Tur.below (Tur.of_grown (F := fun b => v2.ownBlock = some b) hg4 (fun g hg => .inl hg)) HB3.out.size (fun k hk => Nat.le_trans HS1.out (HR3.out.lt k hk).1)))
  rw [dd_eq (fun z hz => KK.out.2 z hz)] at hrow4
  replace hrow4 := row_base hrow4 HS1.out
  rw [List.length_map] at hrow4
  obtain ⟨l, hl⟩ : ∃ l, l = dd zs := ⟨_, rfl⟩
  rw [← hl] at hrow4
  have HL := hid hl
  have HROW := hid hrow4
  have HLS : Hid (l.Pairwise (· < ·)) := by rw [hl]; exact pick_sorted _
  have HLR : Hid (∀ p ∈ l, 1 ≤ p ∧ p ≤ 100) := by rw [hl]; exact dd_ok KK.out.2
  have HLL : Hid (l.length ≤ 100) := len100 (nodup_of_lt HLS.out) HLR.out
  obtain ⟨A4, cap4, rfl⟩ := row_shape hrow4
  have HH4 := hid (HH.out.below HB4.out)
  have HBE := hid (below_g HH4.out HOK.out.lnk (id := y) HY.out.2)
  clear hl hrow4 hg4 hown4 HCO HR3 HB3 HH1 HB1 HS HN
  go_wp2_with fail
  refine HBE.out.mono ?_
  rintro e w5 ⟨⟨v5, rfl, hrow5⟩, hb5⟩
  have HB5 := hid (HB4.out.trans (hb5.mono HB4.out.size))
  have HROW5 : Hid (w5.ownsRow w.heap.size 2 1 (.slice A4 l.length cap4) l.length (rowD l)) := rowN_kept HROW.out fun b hb => hb5.block b (HROW.out.lt b hb).2
  have HBW := hid hrow5
  have HS5 : Hid (w4.heap.size ≤ w5.heap.size) := hb5.size
  clear hrow5 hb5 HBE HROW HB4 HH4
  go_wp2_with fail
  go_loopw [52] (fun iv wr => ∃ i : Nat, i ≤ l.length ∧ iv = .int .i64 i ∧ Hid (∀ p ∈ l.take i, p ≠ y ∧ ¬ G.Rch y p) ∧ Hid (Below w5.heap.size w5 wr)) (fun iv _ => l.length - (intOf iv).toNat)
  case atStart => exact ⟨0, Nat.zero_le _, rfl, hid (fun p hp => by simp at hp), hid (Below.refl _ _)⟩
  case round =>
    obtain ⟨i, hi, rfl, HI, HB⟩ := hrel
    by_cases hin : i < l.length
    · have HK1 : Hid (i + 1 ≤ l.length) := hin
      have HMS : Hid (l.length - (i + 1) < l.length - i) := by unfold Hid; omega
      have hii : (i : Int) < (l.length : Int) := by omega
      have hib : (i : Int) ≤ 100 := by have := HLL.out; omega
      have hrr := rowN_kept HROW5.out fun b hb => HB.out.block b (HROW5.out.lt b hb).2
      obtain ⟨g4, x, rfl, hg4, cx, hm, hx⟩ := row_elem hrr hin
      have HX : Hid (1 ≤ x ∧ x ≤ 100 ∧ x ∈ l) := ⟨(HLR.out x hm).1, (HLR.out x hm).2, hm⟩
      have HT := hid (take_next hx)
      have hbr := rowN_kept HBW.out fun b hb => HB.out.block b (HBW.out.lt b hb).2
      have HSE := hid (search_row (x : Int) hbr (by have := (len100 (nodup_of_lt (pick_sorted (G.Rch y))) (fun z hz => (HOK.out.rch (pick_mem.1 hz).2).2)); omega) (toZ_le (pick_sorted _)))
      clear hrr hbr hx hin hi hm
      go_wp2_with fail
      refine HSE.out.mono ?_
      rintro e w7 ⟨kk, rfl, hb7⟩
      have HB7 := hid (HB.out.trans (hb7.mono HB.out.size))
      clear hb7 HSE HB
      cases hf : (toZ (pick (G.Rch y))).contains (x : Int) with
      | true =>
        have F : Hid (∃ p ∈ dd zs, p = (y : Int).toNat ∨ G.Rch (y : Int).toNat p) := by
          rw [show ((y : Int).toNat) = y by omega, ← HL.out]
          exact ⟨x, HX.out.2.2, .inr ((pick_has HX.out.2.1).1 hf)⟩
        have K3' : Hid (G.st (y : Int).toNat = 0) := by rw [show ((y : Int).toNat) = y by omega]; exact K3.out
        have HBF := hid (HB5.out.trans (HB7.out.mono HB5.out.size))
        clear hf
        go_wp2
        go_ret2
        exact .cycle KK.out K3'.out F.out rfl HBF.out
      | false =>
        have HNR : Hid (¬ G.Rch y x) := fun q => by rw [(pick_has HX.out.2.1).2 q] at hf; cases hf
        clear hf
        by_cases hxy : x = y
        · subst hxy
          have F : Hid (∃ p ∈ dd zs, p = (x : Int).toNat ∨ G.Rch (x : Int).toNat p) := by
            rw [show ((x : Int).toNat) = x by omega, ← HL.out]
            exact ⟨x, HX.out.2.2, .inl rfl⟩
          have K3' : Hid (G.st (x : Int).toNat = 0) := by rw [show ((x : Int).toNat) = x by omega]; exact K3.out
          have HBF := hid (HB5.out.trans (HB7.out.mono HB5.out.size))
          go_wp2
          go_ret2
          exact .cycle KK.out K3'.out F.out rfl HBF.out
        · have hne : (((x : Int)) == ((y : Int))) = false := by simp; omega
          have HI2 : Hid (∀ p ∈ l.take (i + 1), p ≠ y ∧ ¬ G.Rch y p) := by
            rw [HT.out]
            intro p hp
            rw [List.mem_append, List.mem_singleton] at hp
            rcases hp with hp | hp
            · exact HI.out p hp
            · rw [hp]; exact ⟨hxy, HNR.out⟩
          clear hxy
          go_wp2
          go_roundw
          case rel => exact ⟨i + 1, HK1.out, by go_num, HI2, HB7⟩
          case measure => have := HMS.out; simp [intOf]; omega
    · obtain rfl : i = l.length := by omega
      obtain ⟨w6, hw6⟩ : ∃ w6, w6 = wr := ⟨_, rfl⟩
      subst hw6
      have HCY : Hid (∀ p ∈ l, p ≠ y ∧ ¬ G.Rch y p) := by
        have := HI.out
        rw [List.take_length] at this
        exact this
      have HB6 := hid (HB5.out.trans (HB.out.mono HB5.out.size))
      have HROW6 : Hid (w6.ownsRow w.heap.size 2 1 (.slice A4 l.length cap4) l.length (rowD l)) := rowN_kept HROW5.out fun b hb => HB.out.block b (HROW5.out.lt b hb).2
      have HH6 := hid (HH.out.below HB6.out)
      obtain ⟨-, -, c2, -⟩ := HH6.out.cells (i := y) (by have := HY.out; omega)
      obtain ⟨A2, cap2, eA⟩ := row_shape (HH6.out.rw (2 * y + 1) (by have := HY.out; omega))
      have HEA := hid eA
      rw [eA] at c2
      clear HI HB HROW5 HBW HB5 hi hin eA
      go_upto_region 19 with (fail)
      refine wp_name ?_
      intro w7 hw7
      have b7 : Below w6.heap.size w6 w7 := by rw [hw7]; exact (by repeat (first | with_reducible assumption | with_reducible exact Below.refl _ _ | with_reducible refine Below.drew ?_ | with_reducible refine below_drewN ?_ _ | with_reducible refine below_alloc ?_ _ | with_reducible refine Below.alloc ?_ (by first | omega | (simp; done) | (simp; omega)) _ | with_reducible refine Below.setCell ?_ (by first | omega | (simp; done) | (simp; omega)) _ | with_reducible refine below_setRow ?_ (by first | omega | (simp; done) | (simp; omega)) _))
      have N7 : w7.heap[w6.heap.size]? = some (.cells #[.int .i64 1, .slice A4 l.length cap4, .slice A2 (G.X (2 * y + 1)).length cap2, .int .i64 0] 48 (0, 0)) := by rw [hw7]; exact (by (repeat (first | (with_reducible assumption) | (with_reducible exact alloc_at _ _) | ((with_reducible apply alloc_at'); (simp; done)) | (with_reducible apply alloc_at_lt) | (with_reducible apply heap_drew_at) | (with_reducible apply heap_drewN_at) | (with_reducible apply heap_setCell_same) | ((with_reducible apply heap_set_ne); (first | omega | (dsimp only; omega) | (simp; done) | (simp; omega))) | (with_reducible apply setRow_at) | ((with_reducible apply setRow_ne); (first | omega | (dsimp only; omega) | (simp; done) | (simp; omega))))))
      have HB7 := hid b7
      have HN7 := hid N7
      clear hw7 b7 N7 c2
      go_wp2_with fail
      go_loopw [80] (fun iv wr => ∃ i : Nat, i ≤ l.length ∧ iv = .int .i64 i ∧ Hid (∀ p ∈ l.take i, G.st p ≠ 3) ∧ Hid (Below w6.heap.size w6 wr ∧ wr.heap[w6.heap.size]? = some (.cells #[.int .i64 1, .slice A4 l.length cap4, .slice A2 (G.X (2 * y + 1)).length cap2, .int .i64 (G.cntI l i : Nat)] 48 (0, 0)))) (fun iv _ => l.length - (intOf iv).toNat)
      case atStart => exact ⟨0, Nat.zero_le _, rfl, hid (fun p hp => by simp at hp), hid ⟨HB7.out, HN7.out⟩⟩
      case round =>
        clear HB7 HN7
        obtain ⟨i, hi, rfl, HI, HB⟩ := hrel
        by_cases hin : i < l.length
        · have HK1 : Hid (i + 1 ≤ l.length) := hin
          have HMS : Hid (l.length - (i + 1) < l.length - i) := by unfold Hid; omega
          have hii : (i : Int) < (l.length : Int) := by omega
          have hib : (i : Int) ≤ 100 := by have := HLL.out; omega
          have hrr := rowN_kept HROW6.out fun b hb => HB.out.1.block b (HROW6.out.lt b hb).2
          obtain ⟨g4, x, rfl, hg4, cx, hm, hx⟩ := row_elem hrr hin
          have hx2 : x ≤ 100 := (HLR.out x hm).2
          have hxi : (x : Int) < 101 := by omega
          have HX : Hid (x ≤ 100 ∧ x ∈ l) := ⟨hx2, hm⟩
          have HT := hid (take_next hx)
          have HCN := hid (cntI_next' (G := G) hx)
          have HHq := HH6.out.below HB.out.1
          have c0 := (HHq.cells (i := x) (by omega)).1
          have hlq := HHq.ltH
          have HS3 := hid (HOK.out.s3 x)
          obtain ⟨s, hs⟩ : ∃ s, s = G.st x := ⟨_, rfl⟩
          rw [← hs] at c0
          have HSX := hid hs
          have hcle := cntI_le G l i
          have hcb : ((G.cntI l i : Nat) : Int) ≤ 100 := by have := HLL.out; omega
          have d3 := (blk_cell HB.out.2 3).trans rfl
          have df := blk_free HB.out.2
          have hlN : w6.heap.size < wr.heap.size := lt_of_at HB.out.2
          clear hrr hx hin hi hm HHq hs hx2 hcle
          by_cases s3 : s = 3
          · subst s3
            have F : Hid (∃ p ∈ dd zs, G.st p = 3) := by rw [← HL.out]; exact ⟨x, HX.out.2, HSX.out.symm⟩
            have K3' : Hid (G.st (y : Int).toNat = 0) := by rw [show ((y : Int).toNat) = y by omega]; exact K3.out
            have HCY' : Hid (∀ p ∈ dd zs, p ≠ (y : Int).toNat ∧ ¬ G.Rch (y : Int).toNat p) := by rw [show ((y : Int).toNat) = y by omega, ← HL.out]; exact HCY.out
            have HBF := hid (HB6.out.trans (HB.out.1.mono HB6.out.size))
            go_wp2
            go_ret2
            exact .state KK.out K3'.out HCY'.out F.out rfl HBF.out
          · have hn3 : (((s : Nat) : Int) == 3) = false := by simp; omega
            have HI2 : Hid (∀ p ∈ l.take (i + 1), G.st p ≠ 3) := by
              rw [HT.out]
              intro p hp
              rw [List.mem_append, List.mem_singleton] at hp
              rcases hp with hp | hp
              · exact HI.out p hp
              · rw [hp, ← HSX.out]; exact s3
            clear s3
            by_cases s2 : s = 2
            · subst s2
              have HN2 : Hid (G.cntI l (i + 1) = G.cntI l i) := by unfold Hid; rw [HCN.out, ← HSX.out]; simp
              go_wp2
              go_roundw
              case rel => exact ⟨i + 1, HK1.out, by go_num, HI2, by rw [HN2.out]; exact HB⟩
              case measure => have := HMS.out; simp [intOf]; omega
            · have hn2 : (((s : Nat) : Int) != 2) = true := by simp; omega
              have HN2 : Hid (G.cntI l (i + 1) = G.cntI l i + 1) := by
                unfold Hid
                rw [HCN.out, ← HSX.out, if_pos s2]
              have HB2 : Hid (Below w6.heap.size w6 (wr.setCell ⟨w6.heap.size, 3, none⟩ (.int .i64 ((G.cntI l i : Nat) + 1))) ∧ (wr.setCell ⟨w6.heap.size, 3, none⟩ (.int .i64 ((G.cntI l i : Nat) + 1))).heap[w6.heap.size]? = some (.cells #[.int .i64 1, .slice (some ⟨g4, 0, none⟩) l.length cap4, .slice A2 (G.X (2 * y + 1)).length cap2, .int .i64 (G.cntI l (i + 1) : Nat)] 48 (0, 0))) := by
                refine ⟨Below.setCell HB.out.1 (Nat.le_refl _) _, at_of ⟨_, heap_setCell_same _ _ _ _ _ _ HB.out.2, ?_⟩⟩
                rw [HN2.out]
                simp
              clear s2 HB
              go_wp2
              go_roundw
              case rel => exact ⟨i + 1, HK1.out, by go_num, HI2, HB2⟩
              case measure => have := HMS.out; simp [intOf]; omega
        · obtain rfl : i = l.length := by omega
          have HFA : Hid (∀ p ∈ l, G.st p ≠ 3) := by
            have := HI.out
            rw [List.take_length] at this
            exact this
          have HCNT : Hid (G.cntI l l.length = G.cntN l) := by unfold Hid Gr.cntI; rw [List.take_length]
          rw [HCNT.out] at HB
          have HFIT : Hid (G.Fit y l) := ⟨HY.out, K3.out, HLS.out, HLR.out, HCY.out, HFA.out⟩
          have hnq := lt_of_at HB.out.2
          obtain ⟨nb, hnb⟩ : ∃ nb, nb = w6.heap.size := ⟨_, rfl⟩
          have HHq := hid (HH6.out.below HB.out.1)
          have HROWq : Hid (wr.ownsRow w.heap.size 2 1 (.slice A4 l.length cap4) l.length (rowD l)) := rowN_kept HROW6.out fun b hb => HB.out.1.block b (HROW6.out.lt b hb).2
          have hfoot : ∀ k, FootD H R k → k < w.heap.size := fun k hk => (HH.out.foot hk).2
          rw [← hnb] at HB hnq ⊢
          have hnbw : w.heap.size ≤ nb := by rw [hnb]; exact HB6.out.size
          have HNB := hid HB.out.2
          have HTq : Hid (Tur (FootD H R) w wr) := Tur.of_below (HB6.out.trans (HB.out.1.mono (by rw [hnb]; exact HB6.out.size)))
          have HFT := hid hfoot
          have HNW := hid hnbw
          have HST : Hid (GrV B wr H R (G.addC y l 0) ∧ GrowD w H R R ∧ Tur (FootD H R) w wr ∧ R (2 * y + 1) = R (2 * y + 1) ∧ ¬ FootD H R nb ∧ (∀ b, (Value.slice A4 l.length cap4).ownBlock = some b → ¬ FootD H R b) ∧ wr.heap[nb]? = some (.cells #[.int .i64 1, .slice A4 l.length cap4, .slice A2 (G.X (2 * y + 1)).length cap2, .int .i64 (G.cntN l : Nat)] 48 (0, 0)) ∧ wr.ownsRow w.heap.size 2 1 (.slice A4 l.length cap4) l.length (rowD l)) := by
            refine ⟨by rw [addC_zero]; exact HHq.out, GrowD.refl _ _ _, HTq.out, rfl, fun q => ?_, fun b hb q => ?_, HNB.out, HROWq.out⟩
            · have := hfoot nb q; omega
            · have := hfoot b q; have := (HROWq.out.lt b hb).1; omega
          clear HI HB HB6 HH6 HROW6 hi hin HFA HCNT hnb HHq HROWq hfoot hnbw HTq HCY hnq HNB
          obtain ⟨w8, hw8⟩ : ∃ w8, w8 = wr := ⟨_, rfl⟩
          subst hw8
          go_wp2_with fail
          go_loopw [107] (fun iv wr => ∃ (i : Nat) (Ri : Nat → Value), i ≤ l.length ∧ iv = .int .i64 i ∧ Hid (GrV B wr H Ri (G.addC y l i) ∧ GrowD w H R Ri ∧ Tur (FootD H R) w wr ∧ Ri (2 * y + 1) = R (2 * y + 1) ∧ ¬ FootD H Ri nb ∧ (∀ b, (Value.slice A4 l.length cap4).ownBlock = some b → ¬ FootD H Ri b) ∧ wr.heap[nb]? = some (.cells #[.int .i64 1, .slice A4 l.length cap4, .slice A2 (G.X (2 * y + 1)).length cap2, .int .i64 (G.cntN l : Nat)] 48 (0, 0)) ∧ wr.ownsRow w.heap.size 2 1 (.slice A4 l.length cap4) l.length (rowD l))) (fun iv _ => l.length - (intOf iv).toNat)
          case atStart =>
            obtain ⟨z1, z2, z3, -, z4⟩ := HST.out
            exact ⟨0, R, Nat.zero_le _, rfl, hid ⟨z1, z2, z3, rfl, z4⟩⟩
          case round =>
            clear HST
            obtain ⟨i, Ri, hi, rfl, HI⟩ := hrel
            by_cases hin : i < l.length
            · have HK1 : Hid (i + 1 ≤ l.length) := hin
              have HMS : Hid (l.length - (i + 1) < l.length - i) := by unfold Hid; omega
              have hii : (i : Int) < (l.length : Int) := by omega
              have hib : (i : Int) ≤ 100 := by have := HLL.out; omega
              obtain ⟨hG, hgr, htu, hRy, hfn, hfl, hN, hrow⟩ := HI.out
              obtain ⟨g4, x, rfl, hg4, cx, hm, hx⟩ := row_elem hrow hin
              have hx2 : x ≤ 100 := (HLR.out x hm).2
              have hxy : x ≠ y := (HFIT.out.cy x hm).1
              have hxi : (x : Int) < 101 := by omega
              obtain ⟨eX, eC⟩ := addC_next' (G := G) (id := y) (nodup_of_lt HLS.out) hx
              obtain ⟨A8, cap8, e8⟩ := row_shape (hG.rw (2 * x + 1) (by omega))
              have hcl := HOK.out.chl x
              obtain ⟨A9, cap9, w9, happ, d0, df, hd, hG9, hgr9, htu9⟩ := add_child (y := y) hG hx2 (by show ((G.addC y l i).X (2 * x + 1)).length ≤ 100000; rw [eC]; omega) rfl e8
              have c2 := (hG.cells (i := x) (by omega)).2.2.1
              rw [e8] at c2
              have cf := hG.free
              have hlH := hG.ltH
              have HN9 : Hid ((w9.setCell ⟨H, x * 4 + 2, none⟩ (.slice A9 (((G.addC y l i).X (2 * x + 1)).length + 1) cap9)).heap[nb]? = some (.cells #[.int .i64 1, .slice (some ⟨g4, 0, none⟩) l.length cap4, .slice A2 (G.X (2 * y + 1)).length cap2, .int .i64 (G.cntN l : Nat)] 48 (0, 0))) := (htu9.kept nb (lt_of_at hN) hfn).trans hN
              have HR9 : Hid ((w9.setCell ⟨H, x * 4 + 2, none⟩ (.slice A9 (((G.addC y l i).X (2 * x + 1)).length + 1) cap9)).ownsRow w.heap.size 2 1 (.slice (some ⟨g4, 0, none⟩) l.length cap4) l.length (rowD l)) := rowN_kept hrow fun b hb => htu9.kept b (hrow.lt b hb).2 (hfl b hb)
              have HG9 : Hid (GrV B (w9.setCell ⟨H, x * 4 + 2, none⟩ (.slice A9 (((G.addC y l i).X (2 * x + 1)).length + 1) cap9)) H (upd Ri (2 * x + 1) (.slice A9 (((G.addC y l i).X (2 * x + 1)).length + 1) cap9)) (G.addC y l (i + 1))) := by
                refine hG9.same (fun _ _ => ⟨rfl, rfl⟩) fun k _ => ?_
                rw [eX]
              have HGR9 := hid (hgr.trans hgr9 htu.size)
              have HTU9 : Hid (Tur (FootD H R) w (w9.setCell ⟨H, x * 4 + 2, none⟩ (.slice A9 (((G.addC y l i).X (2 * x + 1)).length + 1) cap9))) := htu.trans htu9 hgr
              have HRY9 : Hid (upd Ri (2 * x + 1) (.slice A9 (((G.addC y l i).X (2 * x + 1)).length + 1) cap9) (2 * y + 1) = R (2 * y + 1)) := by unfold Hid; rw [upd_ne _ _ (by omega)]; exact hRy
              have HFN9 : Hid (¬ FootD H (upd Ri (2 * x + 1) (.slice A9 (((G.addC y l i).X (2 * x + 1)).length + 1) cap9)) nb) := fun q => by
                rcases hgr9 nb q with q | q
                · exact hfn q
                · have := lt_of_at hN; omega
              have HFL9 : Hid (∀ b, (Value.slice (some ⟨g4, 0, none⟩) l.length cap4).ownBlock = some b → ¬ FootD H (upd Ri (2 * x + 1) (.slice A9 (((G.addC y l i).X (2 * x + 1)).length + 1) cap9)) b) := fun b hb q => by
                rcases hgr9 b q with q | q
                · exact hfl b hb q
                · have := (hrow.lt b hb).2; omega
              generalize ((G.addC y l i).X (2 * x + 1)).length = m at *
              have HAPP := hid happ
              clear hG9 hgr9 htu9 happ hG hgr htu hRy hfn hfl hN hrow eX eC hcl HI hi hin hm hx hxy e8 hx2
              go_upto_region 30 with (fail)
              go_region_law (refine step_append_eq rfl (.tmp 119) (.tmp 121) 31 rfl (v := .slice A8 m cap8) (y := .slice (some ⟨wr.heap.size, 0, none⟩) 1 1) (by simp [Act.eval]) (by simp [Act.eval]) HAPP.out ?_)
              all_goals
                clear HAPP
                go_wp2
                go_roundw
                case rel => exact ⟨i + 1, _, HK1.out, by go_num, hid ⟨HG9.out, HGR9.out, HTU9.out, HRY9.out, HFN9.out, HFL9.out, HN9.out, HR9.out⟩⟩
                case measure => have := HMS.out; simp [intOf]; omega
            · obtain rfl : i = l.length := by omega
              obtain ⟨hG, hgr, htu, hRy, hfn, hfl, hN, hrow⟩ := HI.out
              have hBw : B ≤ w.heap.size := HH.out.le
              obtain ⟨hF, hT⟩ := add_final hG HY.out.2 (row_base hrow hBw) rfl hfl
              rw [hRy, HEA.out] at hF hT
              have hny : nb ≠ H := fun e => hfn (.inl e)
              have hlN := lt_of_at hN
              have hlH := hG.ltH
              obtain ⟨c, hc⟩ : ∃ c : Int, c = ((G.cntN l : Nat) : Int) := ⟨_, rfl⟩
              rw [← hc] at hF hT hN
              have HFW : Hid (∀ W, Below wr.heap.size ((((wr.setCell ⟨H, y * 4, none⟩ (.int .i64 1)).setCell ⟨H, y * 4 + 1, none⟩ (.slice A4 l.length cap4)).setCell ⟨H, y * 4 + 2, none⟩ (.slice A2 (G.X (2 * y + 1)).length cap2)).setCell ⟨H, y * 4 + 3, none⟩ (.int .i64 c)) W → GrV B W H (upd Ri (2 * y) (.slice A4 l.length cap4)) (G.add y l) ∧ GrowD w H R (upd Ri (2 * y) (.slice A4 l.length cap4)) ∧ Tur (FootD H R) w W) := fun W hb => by
                have hsz : ((((wr.setCell ⟨H, y * 4, none⟩ (.int .i64 1)).setCell ⟨H, y * 4 + 1, none⟩ (.slice A4 l.length cap4)).setCell ⟨H, y * 4 + 2, none⟩ (.slice A2 (G.X (2 * y + 1)).length cap2)).setCell ⟨H, y * 4 + 3, none⟩ (.int .i64 c)).heap.size = wr.heap.size := by simp
                rw [← hsz] at hb
                refine ⟨hF.below hb, ?_, htu.trans (hT.then (Tur.of_below hb)) hgr⟩
                refine hgr.trans (w2 := w) (GrowD.row (by have := HY.out; omega) fun b hb => .inr ?_) (Nat.le_refl _)
                exact (hrow.lt b hb).1
              obtain ⟨r, hr⟩ : ∃ r : Bool, (c == 0) = r := ⟨_, rfl⟩
              have HRR : Hid (r = decide (G.cntN (dd zs) = 0)) := by
                unfold Hid
                rw [← hr, hc, ← HL.out]
                by_cases q : G.cntN l = 0
                · rw [q]; rfl
                · rw [decide_eq_false q]; simp; omega
              obtain ⟨e0, e1, e2, e3⟩ := hG.cells (i := y) (by have := HY.out; omega)
              rw [hRy, HEA.out] at e2
              obtain ⟨A7, cap7, e7⟩ := row_shape (hG.rw (2 * y) (by have := HY.out; omega))
              rw [e7] at e1
              have ef := hG.free
              have n0 := (blk_cell hN 0).trans rfl
              have n1 := (blk_cell hN 1).trans rfl
              have n2 := (blk_cell hN 2).trans rfl
              have n3 := (blk_cell hN 3).trans rfl
              have KF : Hid ((y : Int).toNat = y) := by unfold Hid; omega
              have HNN := hid hN
              clear hF hT hG hgr htu hRy hfn hfl hN hrow HI hi hin hBw e7
              have HFIT2 : Hid (G.Fit (y : Int).toNat (dd zs)) := by rw [KF.out, ← HL.out]; exact HFIT.out
              clear hc
              go_upto_region 32 with (fail)
              go_region
              refine then_name ?_
              intro w10 hw10
              have HF10 := hid (HFW.out w10 (by rw [hw10]; exact (by repeat (first | with_reducible assumption | with_reducible exact Below.refl _ _ | with_reducible refine Below.drew ?_ | with_reducible refine below_drewN ?_ _ | with_reducible refine below_alloc ?_ _ | with_reducible refine Below.alloc ?_ (by first | omega | (simp; done) | (simp; omega)) _ | with_reducible refine Below.setCell ?_ (by first | omega | (simp; done) | (simp; omega)) _ | with_reducible refine below_setRow ?_ (by first | omega | (simp; done) | (simp; omega)) _))))
              have hN := HNN.out
              have N10 : w10.heap[nb]? = some (.cells #[.int .i64 1, .slice A4 l.length cap4, .slice A2 (G.X (2 * y + 1)).length cap2, .int .i64 c] 48 (0, 0)) := by rw [hw10]; exact (by (repeat (first | (with_reducible assumption) | (with_reducible exact alloc_at _ _) | ((with_reducible apply alloc_at'); (simp; done)) | (with_reducible apply alloc_at_lt) | (with_reducible apply heap_drew_at) | (with_reducible apply heap_drewN_at) | (with_reducible apply heap_setCell_same) | ((with_reducible apply heap_set_ne); (first | omega | (dsimp only; omega) | (simp; done) | (simp; omega))) | (with_reducible apply setRow_at) | ((with_reducible apply setRow_ne); (first | omega | (dsimp only; omega) | (simp; done) | (simp; omega))))))
              have n3' : w10.cell? ⟨nb, 3, none⟩ = some (.int .i64 c) := (blk_cell N10 3).trans rfl
              clear N10 hN
              clear hw10 HFW e0 e1 e2 e3 ef n0 n1 n2 n3
              go_wp2
              go_ret2
              refine .ok KK.out HFIT2.out ?_ ⟨_, ?_, HF10.out.2.1⟩ HF10.out.2.2
              · rw [← HRR.out]; rfl
              · rw [KF.out, ← HL.out]; exact HF10.out.1
end Go.Proofs.Ytolfioiccmmifaa
