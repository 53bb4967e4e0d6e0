/- Chapter 14's reference: Tenants, Top. -/
import Derived.Test.YtingeijodooocaaDfB
namespace Go.Proofs.Ytingeijodooocaa
open Go.RowKit
variable {B g n c : Nat} {w w' wr : World} {v : Value} {L M : List Wt} {A : Option Addr} {cap : Nat}
set_option maxRecDepth 20000 in
set_option maxHeartbeats 8000000 in
theorem rtens_g (h : RfQ B w g v n L) (hs : SrtQ L) (hn : n ≤ 1000) :
    Calls Try.prog 40 #[.pointer (some ⟨g, 0, none⟩)] w fun e w' => ∃ (v' : Value) (ks : List (List UInt8)), e = .returned v' ∧ IsTn L ks ∧ w'.ownsRow w.heap.size 9 1 v' ks.length (flatR 1 fK ks) ∧ Below w.heap.size w w' := by
  have HH := hid h
  have HL := hid h.len
  have HN := hid hn
  have HSR := hid hs
  have hnb : (n : Int) ≤ 1000 := by omega
  obtain ⟨A, cap, rfl⟩ := rowR_shape h.row
  clear h hn hs
  have HI0 : Hid (Below w.heap.size w w ∧ ∃ ks, w.ownsRow w.heap.size 9 1 (.slice none 0 0) 0 (flatR 1 fK ks) ∧ IsTn (L.take 0) ks ∧ ks.length ≤ 0) := ⟨Below.refl _ _, [], World.ownsRow_nil _ _ _ _, by simpa using IsTn.nil, Nat.le_refl _⟩
  have hlg := HH.out.ltg
  go_enter Try.func40, Try.ntmps40
  go_wp2_with fail
  go_loopw [3, 4] (fun sv iv wr => ∃ (i m : Nat) (v' : Value), i ≤ n ∧ v' = sv ∧ iv = .int .i64 i ∧ Hid (Below w.heap.size w wr ∧ ∃ ks, wr.ownsRow w.heap.size 9 1 v' m (flatR 1 fK ks) ∧ IsTn (L.take i) ks ∧ ks.length ≤ i)) (fun _ iv _ => n - (intOf iv).toNat)
  case atStart => exact ⟨0, 0, _, Nat.zero_le _, rfl, rfl, HI0⟩
  case round =>
    clear HI0
    obtain ⟨i, m, v', hi, rfl, rfl, HI⟩ := hrel
    have HBW := hid HI.out.1
    have m0 := (HH.out.below HI.out.1).head
    have mg := (HH.out.below HI.out.1).ltg
    by_cases hin : i < n
    · have HK1 : Hid (i + 1 ≤ n) := hin
      have HMS : Hid (n - (i + 1) < n - i) := by unfold Hid; omega
      have hii : (i : Int) < (n : Int) := by omega
      have hib : (i : Int) ≤ 1000 := by omega
      obtain ⟨x, hx⟩ : ∃ x, L[i]? = some x := ⟨_, List.getElem?_eq_getElem (by have := HL.out; omega)⟩
      obtain ⟨b, cap', e, hl, -, -, c1, -⟩ := HH.out.elem HI.out.1 hx
      injection e with e1 e2 e3
      subst e1 e3
      obtain ⟨A3, cap3, rfl⟩ : ∃ A3 cap3, v' = .slice A3 m cap3 := by obtain ⟨ks, hr, -⟩ := HI.out.2; exact rowR_shape hr
      have HMN : Hid (m ≤ 1000) := by
        obtain ⟨ks, hr, -, hk⟩ := HI.out.2
        have := rowR_len hr (by omega)
        have := HN.out
        unfold Hid
        omega
      have HX := hid hx
      have HE : Hid (∀ p u, L[p]? = some u → wr.cell? ⟨b, p * 3 + 1, none⟩ = some (.string u.ten)) := fun p u hp => by
        obtain ⟨b9, c9, e9, -, -, -, q, -⟩ := HH.out.elem HBW.out hp
        injection e9 with e9
        injection e9 with e9
        injection e9 with e9
        subst e9
        exact q
      obtain ⟨f, hf⟩ : ∃ f : Bool, f = true ↔ (i = 0 ∨ ∃ u, L[i - 1]? = some u ∧ u.ky ≠ x.ky) := ⟨decide (i = 0 ∨ ∃ u, L[i - 1]? = some u ∧ u.ky ≠ x.ky), by rw [decide_eq_true_eq]⟩
      have HFD := hid hf
      clear hin hi hx hf
      go_upto_region 5 with fail
      go_cut [35] (fun s wx => s = .bool f ∧ Below wr.heap.size wr wx)
      case first =>
        by_cases h0 : i = 0
        · subst h0
          have hft : f = true := HFD.out.2 (.inl rfl)
          subst hft
          clear HI
          go_quiet (fail)
          go_wp2_with fail
          go_meet
          exact ⟨rfl, (by repeat (first | with_reducible assumption | with_reducible exact Below.refl _ _ | with_reducible refine Below.drew ?_ | with_reducible refine below_drewN ?_ _ | with_reducible refine below_alloc ?_ _ | with_reducible refine Below.alloc ?_ (by first | omega | (simp; done) | (simp; omega)) _ | with_reducible refine Below.setCell ?_ (by first | omega | (simp; done) | (simp; omega)) _ | with_reducible refine below_setRow ?_ (by first | omega | (simp; done) | (simp; omega)) _))⟩
        · obtain ⟨p, hp⟩ : ∃ p, p = i - 1 := ⟨_, rfl⟩
          have iw : IntKind.i64.wrap ((i : Int) - 1) = (p : Int) := by rw [show (i : Int) - 1 = (p : Int) by omega]; exact IntWalk.i64_in _ (by omega)
          have hpn : (p : Int) < (n : Int) := by omega
          have hz1 : ((i : Int) == 0) = false := by simpa using h0
          have hz2 : (i == 0) = false := by simpa using h0
          obtain ⟨u, hu⟩ : ∃ u, L[p]? = some u := ⟨_, List.getElem?_eq_getElem (by have := HL.out; omega)⟩
          have d1 := HE.out p u hu
          by_cases hq : u.ky = x.ky
          · have heq : (u.ten.toList == x.ten.toList) = true := by
              have : u.ten = x.ten := ten_eq hq
              rw [this]; simp
            have hff : f = false := by
              cases f with
              | false => rfl
              | true =>
                rcases HFD.out.1 rfl with e | ⟨u2, e, e2⟩
                · exact absurd e h0
                · rw [← hp, hu] at e
                  injection e with e
                  rw [← e] at e2
                  exact absurd hq e2
            subst hff
            clear HI hq hu hp
            go_quiet (fail)
            go_wp2_with fail
            go_meet
            exact ⟨rfl, (by repeat (first | with_reducible assumption | with_reducible exact Below.refl _ _ | with_reducible refine Below.drew ?_ | with_reducible refine below_drewN ?_ _ | with_reducible refine below_alloc ?_ _ | with_reducible refine Below.alloc ?_ (by first | omega | (simp; done) | (simp; omega)) _ | with_reducible refine Below.setCell ?_ (by first | omega | (simp; done) | (simp; omega)) _ | with_reducible refine below_setRow ?_ (by first | omega | (simp; done) | (simp; omega)) _))⟩
          · have heq : (u.ten.toList == x.ten.toList) = false := by
              rw [beq_eq_false_iff_ne]
              intro e
              exact hq (by unfold Wt.ky; simpa [Go.Lib.toList_data] using e)
            have hft : f = true := HFD.out.2 (.inr ⟨u, by rw [← hp]; exact hu, hq⟩)
            subst hft
            clear HI hq hu hp
            go_quiet (fail)
            go_wp2_with fail
            go_meet
            exact ⟨rfl, (by repeat (first | with_reducible assumption | with_reducible exact Below.refl _ _ | with_reducible refine Below.drew ?_ | with_reducible refine below_drewN ?_ _ | with_reducible refine below_alloc ?_ _ | with_reducible refine Below.alloc ?_ (by first | omega | (simp; done) | (simp; omega)) _ | with_reducible refine Below.setCell ?_ (by first | omega | (simp; done) | (simp; omega)) _ | with_reducible refine below_setRow ?_ (by first | omega | (simp; done) | (simp; omega)) _))⟩
      case rest =>
        obtain ⟨rfl, hb5⟩ := hcut
        obtain ⟨w5, rfl⟩ : ∃ wx_ : World, wx_ = wc := ⟨_, rfl⟩
        have HB5 : Hid (Below w.heap.size w w5) := HBW.out.trans (hb5.mono HBW.out.size)
        have HI5 : Hid (∃ ks, w5.ownsRow w.heap.size 9 1 (.slice A3 m cap3) m (flatR 1 fK ks) ∧ IsTn (L.take i) ks ∧ ks.length ≤ i) := by
          obtain ⟨ks, h1, h2, h3⟩ := HI.out.2
          exact ⟨ks, rowR_below h1 hb5, h2, h3⟩
        have m5 := (HH.out.below HB5.out).head
        have mg5 := (HH.out.below HB5.out).ltg
        obtain ⟨b9, c9, e9, hl9, -, -, d1, -⟩ := HH.out.elem HB5.out HX.out
        injection e9 with e9 e10 e11
        injection e9 with e9
        injection e9 with e9
        subst e9
        clear hb5 HI m0 mg c1 hl e11
        cases f with
        | true =>
          obtain ⟨ks, h1, h2, h3⟩ := HI5.out
          obtain ⟨z, hz⟩ : ∃ z, z = x.ten := ⟨_, rfl⟩
          have hb0 : Below w5.heap.size w5 (w5.alloc (.cells #[.string (bsK x.ky)] 9)) := (by repeat (first | with_reducible assumption | with_reducible exact Below.refl _ _ | with_reducible refine Below.drew ?_ | with_reducible refine below_drewN ?_ _ | with_reducible refine below_alloc ?_ _ | with_reducible refine Below.alloc ?_ (by first | omega | (simp; done) | (simp; omega)) _ | with_reducible refine Below.setCell ?_ (by first | omega | (simp; done) | (simp; omega)) _ | with_reducible refine below_setRow ?_ (by first | omega | (simp; done) | (simp; omega)) _))
          obtain ⟨g', cap4, w8, happ, hown, hb8⟩ := rowS_app h1 (by have := HMN.out; omega) HB5.out.size hb0 (alloc_at w5 _)
          rw [bsK_ky] at happ hb0 hb8
          have HAPP := hid happ
          have HI8 : Hid (Below w.heap.size w w8 ∧ ∃ ks, w8.ownsRow w.heap.size 9 1 (.slice (some ⟨g', 0, none⟩) (m + 1) cap4) (m + 1) (flatR 1 fK ks) ∧ IsTn (L.take (i + 1)) ks ∧ ks.length ≤ i + 1) :=
            ⟨(HB5.out.trans (hb0.mono HB5.out.size)).trans hb8, ks ++ [x.ky], hown, h2.more HSR.out HX.out (HFD.out.1 rfl), by simp; omega⟩
          clear h1 h2 h3 hb0 happ hown hb8 HI5
          go_wp2_with (first | (at_builtin; refine wpList_append_eq rfl _ _ _ rfl rfl rfl HAPP.out ?_))
          go_roundw
          case rel => exact ⟨i + 1, m + 1, _, HK1.out, rfl, by go_num, HI8⟩
          case measure => have := HMS.out; simp [intOf]; omega
        | false =>
          have HI8 : Hid (Below w.heap.size w w5 ∧ ∃ ks, w5.ownsRow w.heap.size 9 1 (.slice A3 m cap3) m (flatR 1 fK ks) ∧ IsTn (L.take (i + 1)) ks ∧ ks.length ≤ i + 1) := by
            obtain ⟨ks, h1, h2, h3⟩ := HI5.out
            have hne : ¬ (i = 0 ∨ ∃ u, L[i - 1]? = some u ∧ u.ky ≠ x.ky) := fun e => by have := HFD.out.2 e; cases this
            have h0 : 0 < i := Nat.pos_of_ne_zero fun e => hne (.inl e)
            obtain ⟨u, hu⟩ : ∃ u, L[i - 1]? = some u := ⟨_, List.getElem?_eq_getElem (by have := HL.out; have := HK1.out; omega)⟩
            have he : u.ky = x.ky := Classical.byContradiction fun e => hne (.inr ⟨u, hu, e⟩)
            exact ⟨HB5.out, ks, h1, IsTn.same HX.out h2 h0 hu he, by omega⟩
          clear HI5
          go_wp2
          go_roundw
          case rel => exact ⟨i + 1, m, _, HK1.out, rfl, by go_num, HI8⟩
          case measure => have := HMS.out; simp [intOf]; omega
    · obtain rfl : i = n := by omega
      have hii : ¬ (i : Int) < (i : Int) := by omega
      have FIN : Hid (∃ ks, IsTn L ks ∧ wr.ownsRow w.heap.size 9 1 v' ks.length (flatR 1 fK ks) ∧ Below w.heap.size w wr) := by
        obtain ⟨ks, h1, h2, -⟩ := HI.out.2
        rw [List.take_of_length_le (by have := HL.out; omega)] at h2
        have h3 := rowR_len h1 (by omega)
        exact ⟨ks, h2, by rw [h3]; exact h1, HI.out.1⟩
      clear hin hi HI
      go_wp2
      go_ret
      exact ⟨v', rfl, FIN.out⟩
set_option maxRecDepth 20000 in
set_option maxHeartbeats 8000000 in
theorem rtop_g (h : RfQ B w g v n L) (hs : SrtQ L) (hn : n ≤ 1000) :
    Calls Try.prog 38 #[.pointer (some ⟨g, 0, none⟩)] w fun e w' => ∃ (v' : Value) (ks : List (List UInt8)), e = .returned (.tuple #[.int .i64 (bestL L), v']) ∧ IsTn L ks ∧ w'.ownsRow w.heap.size 9 1 v' (topT L (bestL L) ks).length (flatR 1 fK (topT L (bestL L) ks)) ∧ Below w.heap.size w w' := by
  have HH := hid h
  have HL := hid h.len
  have HN := hid hn
  have HSR := hid hs
  have hnb : (n : Int) ≤ 1000 := by omega
  obtain ⟨A, cap, rfl⟩ := rowR_shape h.row
  clear h hn hs
  have HI0 : Hid (Below w.heap.size w w ∧ 0 = bestL (L.take 0)) := ⟨Below.refl _ _, rfl⟩
  have hlg := HH.out.ltg
  go_enter Try.func38, Try.ntmps38
  go_wp2_with fail
  go_loopw [4, 5] (fun bv iv wr => ∃ (i : Nat) (b : Int), i ≤ n ∧ bv = .int .i64 b ∧ iv = .int .i64 i ∧ Hid (Below w.heap.size w wr ∧ b = bestL (L.take i))) (fun _ iv _ => n - (intOf iv).toNat)
  case atStart => exact ⟨0, 0, Nat.zero_le _, rfl, rfl, HI0⟩
  case round =>
    clear HI0
    obtain ⟨i, b, hi, rfl, rfl, HI⟩ := hrel
    have m0 := (HH.out.below HI.out.1).head
    have mg := (HH.out.below HI.out.1).ltg
    by_cases hin : i < n
    · have HK1 : Hid (i + 1 ≤ n) := hin
      have HMS : Hid (n - (i + 1) < n - i) := by unfold Hid; omega
      have hii : (i : Int) < (n : Int) := by omega
      obtain ⟨x, hx⟩ : ∃ x, L[i]? = some x := ⟨_, List.getElem?_eq_getElem (by have := HL.out; omega)⟩
      obtain ⟨b0, cap', e, hl, -, -, -, c2⟩ := HH.out.elem HI.out.1 hx
      injection e with e1 e2 e3
      subst e1 e3
      have HF : Hid (Below w.heap.size w wr ∧ max b x.pri = bestL (L.take (i + 1))) := ⟨HI.out.1, by rw [bestL_take hx, HI.out.2]⟩
      clear hin hi hx HI
      go_wp2
      go_roundw
      case rel => exact ⟨i + 1, max b x.pri, HK1.out, by first | rfl | go_num, by go_num, HF⟩
      case measure => have := HMS.out; simp [intOf]; omega
    · obtain rfl : i = n := by omega
      have hii : ¬ (i : Int) < (i : Int) := by omega
      have HB : Hid (b = bestL L) := by
        have := HI.out.2
        rw [List.take_of_length_le (by have := HL.out; omega)] at this
        exact this
      have HBW := hid HI.out.1
      have hcall := rtens_g (HH.out.below HI.out.1) HSR.out HN.out
      clear hin hi HI
      go_wp2_with fail
      refine hcall.mono ?_
      rintro e w1 ⟨v1, ks, rfl, hk, hrow, hb1⟩
      obtain ⟨A1, cap1, rfl⟩ := rowR_shape hrow
      have HS := hid (SlG.of_row (by omega) hrow)
      have HK := hid hk
      have hkl := IsTn.len HSR.out hk
      obtain ⟨N, hNe⟩ : ∃ N, N = ks.length := ⟨_, rfl⟩
      rw [← hNe] at HS ⊢
      have HNN : Hid (N = ks.length ∧ N ≤ 1000) := ⟨hNe, by have := HL.out; have := HN.out; omega⟩
      have hNb : (N : Int) ≤ 1000 := by have := HNN.out; omega
      have HB1 : Hid (Below w.heap.size w w1) := HBW.out.trans (hb1.mono HBW.out.size)
      have HI1 : Hid (Below w1.heap.size w1 w1 ∧ w1.ownsRow w1.heap.size 9 1 (.slice none 0 0) 0 (flatR 1 fK (topT L b (ks.take 0)))) := ⟨Below.refl _ _, World.ownsRow_nil _ _ _ _⟩
      clear hcall hk hrow hb1 hkl hNe m0 mg
      go_wp2_with fail
      go_loopw [6, 8] (fun sv jv wr => ∃ (j m : Nat) (v' : Value), j ≤ N ∧ v' = sv ∧ jv = .int .i64 j ∧ Hid (Below w1.heap.size w1 wr ∧ wr.ownsRow w1.heap.size 9 1 v' m (flatR 1 fK (topT L b (ks.take j))))) (fun _ jv _ => N - (intOf jv).toNat)
      case atStart => exact ⟨0, 0, _, Nat.zero_le _, rfl, rfl, HI1⟩
      case round =>
        clear HI1
        obtain ⟨j, m, v', hj, rfl, rfl, HI⟩ := hrel
        by_cases hjn : j < N
        · have HK1 : Hid (j + 1 ≤ N) := hjn
          have HMS : Hid (N - (j + 1) < N - j) := by unfold Hid; omega
          have hjj : (j : Int) < (N : Int) := by omega
          obtain ⟨t, ht⟩ : ∃ t, ks[j]? = some t := ⟨_, List.getElem?_eq_getElem (by have := HNN.out.1; omega)⟩
          obtain ⟨b0, off, rfl, hl, c0⟩ := SlS.at_ HS.out HI.out.1 ht
          have hbw : Below w.heap.size w wr := HB1.out.trans (HI.out.1.mono HB1.out.size)
          have hcall := rhead_g (HH.out.below hbw) HN.out (bsK t)
          obtain ⟨u, -, -, hhd, hp⟩ := hpri_at ((HK.out.mem t).1 (List.mem_of_getElem? ht))
          rw [show (bsK t).data.toList = t by simp, hhd] at hcall
          simp only [got, gotE, Option.getD_some, Option.isSome_some, if_true, wtV] at hcall
          obtain ⟨A3, cap3, rfl⟩ := rowR_shape HI.out.2
          have HMN : Hid (m ≤ 1000) := by
            have h0 := rowR_len HI.out.2 (by omega)
            have h1 : (topT L b (ks.take j)).length ≤ (ks.take j).length := List.length_filter_le _ _
            rw [List.length_take] at h1
            have := HNN.out
            unfold Hid
            omega
          have HP := hid hp
          have HT := hid ht
          obtain ⟨j0, t0, p⟩ := u
          simp only at hcall HP
          clear ht hj hjn hp hbw hhd
          go_wp2_with fail
          refine hcall.mono ?_
          rintro e w7 ⟨rfl, hb7⟩
          have hs7 := hb7.size
          have HB7 : Hid (Below w1.heap.size w1 w7) := HI.out.1.trans (hb7.mono HI.out.1.size)
          have HR7 := hid (rowR_below HI.out.2 hb7)
          obtain ⟨b9, off9, e9, hl7, c7⟩ := SlS.at_ HS.out HB7.out HT.out
          injection e9 with e9
          injection e9 with e9 e10
          subst e9 e10
          clear hcall hb7 c0 HI hl hs7
          by_cases hpb : p = b
          · subst hpb
            have hb0 : Below w7.heap.size w7 ((w7.alloc (.cells #[.int .i64 j0, .string t0, .int .i64 p] 56)).alloc (.cells #[.string (bsK t)] 9)) := (by repeat (first | with_reducible assumption | with_reducible exact Below.refl _ _ | with_reducible refine Below.drew ?_ | with_reducible refine below_drewN ?_ _ | with_reducible refine below_alloc ?_ _ | with_reducible refine Below.alloc ?_ (by first | omega | (simp; done) | (simp; omega)) _ | with_reducible refine Below.setCell ?_ (by first | omega | (simp; done) | (simp; omega)) _ | with_reducible refine below_setRow ?_ (by first | omega | (simp; done) | (simp; omega)) _))
            have ha : ((w7.alloc (.cells #[.int .i64 j0, .string t0, .int .i64 p] 56)).alloc (.cells #[.string (bsK t)] 9)).heap[w7.heap.size + 1]? = some (.cells #[.string (bsK t)] 9 (0, 0)) := (by (repeat (first | (with_reducible assumption) | (with_reducible exact alloc_at _ _) | ((with_reducible apply alloc_at'); (simp; done)) | (with_reducible apply alloc_at_lt) | (with_reducible apply heap_drew_at) | (with_reducible apply heap_drewN_at) | (with_reducible apply heap_setCell_same) | ((with_reducible apply heap_set_ne); (first | omega | (dsimp only; omega) | (simp; done) | (simp; omega))) | (with_reducible apply setRow_at) | ((with_reducible apply setRow_ne); (first | omega | (dsimp only; omega) | (simp; done) | (simp; omega))))))
            obtain ⟨g', cap4, w8, happ, hown, hb8⟩ := rowS_app HR7.out (by have := HMN.out; omega) HB7.out.size hb0 ha
            have HAPP := hid happ
            have HI8 : Hid (Below w1.heap.size w1 w8 ∧ w8.ownsRow w1.heap.size 9 1 (.slice (some ⟨g', 0, none⟩) (m + 1) cap4) (m + 1) (flatR 1 fK (topT L p (ks.take (j + 1))))) := by
              refine ⟨(HB7.out.trans (hb0.mono HB7.out.size)).trans hb8, ?_⟩
              rw [topT_take HT.out, if_pos HP.out]
              exact hown
            clear hb0 ha happ hown hb8
            go_wp2_with (first | (at_builtin; refine wpList_append_eq rfl _ _ _ rfl rfl rfl HAPP.out ?_))
            go_roundw
            case rel => exact ⟨j + 1, m + 1, _, HK1.out, rfl, by go_num, HI8⟩
            case measure => have := HMS.out; simp [intOf]; omega
          · have HI8 : Hid (∀ X, Below w7.heap.size w7 X → Below w1.heap.size w1 X ∧ X.ownsRow w1.heap.size 9 1 (.slice A3 m cap3) m (flatR 1 fK (topT L b (ks.take (j + 1))))) := fun X hX => by
              refine ⟨HB7.out.trans (hX.mono HB7.out.size), ?_⟩
              rw [topT_take HT.out, if_neg (by rw [HP.out]; exact hpb)]
              exact rowR_below HR7.out hX
            go_wp2
            go_roundw
            case rel => exact ⟨j + 1, m, _, HK1.out, rfl, by go_num, HI8.out _ (by repeat (first | with_reducible assumption | with_reducible exact Below.refl _ _ | with_reducible refine Below.drew ?_ | with_reducible refine below_drewN ?_ _ | with_reducible refine below_alloc ?_ _ | with_reducible refine Below.alloc ?_ (by first | omega | (simp; done) | (simp; omega)) _ | with_reducible refine Below.setCell ?_ (by first | omega | (simp; done) | (simp; omega)) _ | with_reducible refine below_setRow ?_ (by first | omega | (simp; done) | (simp; omega)) _))⟩
            case measure => have := HMS.out; simp [intOf]; omega
        · obtain rfl : j = N := by omega
          have hjj : ¬ (j : Int) < (j : Int) := by omega
          have FIN : Hid (wr.ownsRow w.heap.size 9 1 v' (topT L (bestL L) ks).length (flatR 1 fK (topT L (bestL L) ks)) ∧ Below w.heap.size w wr) := by
            have h1 := HI.out.2
            rw [List.take_of_length_le (by rw [← HNN.out.1]; exact Nat.le_refl _), HB.out] at h1
            have h2 := rowR_len h1 (by omega)
            exact ⟨by rw [h2]; exact ownsRow_base_a h1 HB1.out.size, HB1.out.trans (HI.out.1.mono HB1.out.size)⟩
          clear hj hjn HI
          go_wp2
          go_ret2
          refine ⟨v', ?_, ks, HK.out, FIN.out.1, FIN.out.2⟩
          rw [← HB.out]
          rfl
end Go.Proofs.Ytingeijodooocaa
