/- QueueOrder's walk. -/
import Derived.Test.YtingeijodooocaaQvA
import Derived.Sort.Walk0
namespace Go.Proofs.Ytingeijodooocaa
open Go.RowKit
theorem run_geqS {a b : ByteArray} (h : Op.bytesLess a.toList b.toList = true) (W : World) : (binOp .geq 9 (.string a) (.string b)).run Try.prog W = .ok (.bool false) W := by
  simp [binOp, Op.stringOp, h]
set_option maxRecDepth 100000 in
set_option maxHeartbeats 16000000 in
theorem queueOrder_any (A : Option Addr) (n cap : Nat) (l : List Wt) (w : World) (h : SlG 3 fW w A n l) (hok : ∀ x ∈ l, okW x) (hn : n ≤ maxLen) :
    Calls Try.prog 5 #[.slice A n cap] w fun e w' => e = .returned (.bool true) ∧ Below w.heap.size w w' := by
  have HS := hid h
  have HOK := hid hok
  have HL : Hid (n = l.length) := h.1
  have hnb : (n : Int) ≤ 9223372036854775807 := by unfold maxLen at hn; omega
  clear h hok hn
  go_enter Try.func5, Try.ntmps5
  go_wp2_with fail
  refine (awake_q w).mono ?_
  rintro e w1 ⟨rfl, hb1⟩
  have B1 := hid hb1
  clear hb1
  by_cases h3 : (300 : Int) < (n : Int)
  · go_wp2_with fail
    refine (awake_q w1).mono ?_
    rintro e w2 ⟨rfl, hb2⟩
    have B2 := B1.out.trans (hb2.mono B1.out.size)
    go_wp2
    go_ret
    exact ⟨rfl, B2⟩
  have HN : Hid (n ≤ 300) := by unfold Hid; omega
  go_wp2_with fail
  refine (qs_new B1.out).mono ?_
  rintro e w2 ⟨rfl, hq⟩
  obtain ⟨q, hqe⟩ : ∃ q, q = w1.heap.size := ⟨_, rfl⟩
  rw [← hqe] at hq ⊢
  have HQ0 : Hid (QS w w2 q [] 0 ∧ ([] : List Wt).length = 0) := ⟨hq, rfl⟩
  clear hq hqe
  go_wp2_with fail
  go_loopw [4, 5] (fun mv iv wr => ∃ (i m : Nat) (L : List Wt), i ≤ n ∧ mv = .int .i64 m ∧ iv = .int .i64 i ∧ Hid (QS w wr q L i ∧ L.length = m)) (fun _ iv _ => n - (intOf iv).toNat)
  case atStart => exact ⟨0, 0, [], Nat.zero_le _, rfl, rfl, HQ0⟩
  case round =>
    clear HQ0
    obtain ⟨i, m, L, hi, rfl, rfl, HI⟩ := hrel
    by_cases hin : i < n
    · have HK1 : Hid (i + 1 ≤ n) := hin
      have HMS : Hid (n - (i + 1) < n - i) := by unfold Hid; omega
      have hii : (i : Int) < (n : Int) := by omega
      obtain ⟨u, hu⟩ : ∃ u, l[i]? = some u := ⟨_, List.getElem?_eq_getElem (by have := HL.out; omega)⟩
      obtain ⟨b0, off, rfl, hl, hc⟩ := HS.out.one HI.out.1.bel hu
      have c0 : wr.cell? ⟨b0, off + i * 3, none⟩ = some (.int .i64 u.job) := hc 0 (by omega)
      have c1 : wr.cell? ⟨b0, off + i * 3 + 1, none⟩ = some (.string u.ten) := hc 1 (by omega)
      have c2 : wr.cell? ⟨b0, off + i * 3 + 2, none⟩ = some (.int .i64 u.pri) := hc 2 (by omega)
      have hcall := qs_push HI.out.1 (v := u) (HOK.out u (List.mem_of_getElem? hu)).1 (by have := HN.out; omega)
      obtain ⟨e, he⟩ : ∃ e, e = errQ L u := ⟨_, rfl⟩
      rw [← he] at hcall
      have HE := hid he
      have hmb : (m : Int) ≤ 300 := by have := HI.out.1.len.1; have := HI.out.2; have := HN.out; omega
      have HML : Hid (L.length = m) := HI.out.2
      unfold wtV at hcall
      clear hu hc hin hi he
      go_wp2_with fail
      refine hcall.mono ?_
      rintro e9 w5 ⟨rfl, hq5⟩
      have HQ5 := hid hq5
      clear hcall hq5 c0 c1 c2 HI hl
      by_cases h0 : e = 0
      · subst h0
        have HF : Hid (QS w w5 q (pushQ L u) (i + 1) ∧ (pushQ L u).length = m + 1) := ⟨HQ5.out, by unfold pushQ; rw [if_pos HE.out.symm, (insQ_perm u L).length_eq, List.length_cons, HML.out]⟩
        go_wp2
        go_roundw
        case rel => exact ⟨i + 1, m + 1, _, HK1.out, by go_num, by go_num, HF⟩
        case measure => have := HMS.out; simp [intOf]; omega
      · have HF : Hid (QS w w5 q (pushQ L u) (i + 1) ∧ (pushQ L u).length = m) := ⟨HQ5.out, by unfold pushQ; rw [if_neg (by rw [← HE.out]; exact h0)]; exact HML.out⟩
        go_wp2
        go_roundw
        case rel => exact ⟨i + 1, m, _, HK1.out, by go_num, by go_num, HF⟩
        case measure => have := HMS.out; simp [intOf]; omega
    · obtain rfl : i = n := by omega
      have hii : ¬ (i : Int) < (i : Int) := by omega
      have hcall := qs_tens HI.out.1
      have HQ3 := hid HI.out.1
      have HML : Hid (L.length = m) := HI.out.2
      have HLN : Hid (L.length ≤ 300) := by have := HI.out.1.len.1; have := HN.out; unfold Hid; omega
      obtain ⟨a4, ha4⟩ : ∃ a, a = wr.heap.size := ⟨_, rfl⟩
      rw [← ha4] at hcall
      have HA4 := hid ha4
      clear hi hin HI ha4
      go_wp2_with fail
      refine hcall.mono ?_
      rintro e w4 ⟨vs, ks, rfl, hk, hrow, hb4⟩
      rw [HA4.out] at hb4
      have HK := hid hk
      have hkl := IsTn.len HQ3.out.srt hk
      obtain ⟨N, hN⟩ : ∃ N, N = ks.length := ⟨_, rfl⟩
      rw [← hN] at hrow
      have HNN : Hid (N = ks.length ∧ N ≤ 300) := ⟨hN, by have := HLN.out; omega⟩
      have hNb : (N : Int) ≤ 300 := by have := HNN.out; omega
      obtain ⟨A4, cap4, rfl⟩ := rowR_shape hrow
      have HI4 : Hid (QP w w4 q L i (fun k => (Value.slice A4 N cap4).ownBlock = some k) ∧ w4.ownsRow a4 9 1 (.slice A4 N cap4) N (flatR 1 fK ks) ∧ Ot L ks 0 L ∧ L.length = m) :=
        ⟨(QP.of HQ3.out).add hb4 (fun k hk => .inr (by rw [← HA4.out]; exact (hrow.lt k hk).1)), hrow, Ot.start _ _, HML.out⟩
      clear hcall hk hrow hb4 hkl hN HA4 HML
      obtain ⟨L0, hL0⟩ : ∃ x, x = L := ⟨_, rfl⟩
      have HI4' : Hid (∃ L', QP w w4 q L' i (fun k => (Value.slice A4 N cap4).ownBlock = some k) ∧ w4.ownsRow a4 9 1 (.slice A4 N cap4) N (flatR 1 fK ks) ∧ Ot L0 ks 0 L' ∧ L'.length = m) := ⟨L, by rw [hL0]; exact HI4.out⟩
      rw [← hL0] at HK HLN HQ3
      clear HI4 hL0
      have HS0 := hid HQ3.out.srt
      have HJ0 : Hid (∀ v ∈ L0, v.ten.size ≤ maxLen) := fun v hv => (HQ3.out.job hv).2.2.2.2
      clear HQ3
      go_wp2_with fail
      go_loopw [4, 7] (fun mv iv wr => ∃ (j m : Nat), j ≤ N ∧ mv = .int .i64 m ∧ iv = .int .i64 j ∧ Hid (∃ L', QP w wr q L' i (fun k => (Value.slice A4 N cap4).ownBlock = some k) ∧ wr.ownsRow a4 9 1 (.slice A4 N cap4) N (flatR 1 fK ks) ∧ Ot L0 ks j L' ∧ L'.length = m)) (fun _ iv _ => N - (intOf iv).toNat)
      case atStart => exact ⟨0, m, Nat.zero_le _, rfl, rfl, HI4'⟩
      case round =>
        clear HI4'
        obtain ⟨j, m, hj, rfl, rfl, HI⟩ := hrel
        obtain ⟨L', hI⟩ := HI.out
        by_cases hjn : j < N
        · have HK1 : Hid (j + 1 ≤ N) := hjn
          have HMS : Hid (N - (j + 1) < N - j) := by unfold Hid; omega
          have hjj : (j : Int) < (N : Int) := by omega
          have hjb : (j : Int) ≤ 300 := by omega
          obtain ⟨t, ht⟩ : ∃ t, ks[j]? = some t := ⟨_, List.getElem?_eq_getElem (by have := HNN.out.1; omega)⟩
          have HT := hid ht
          have HTZ : Hid ((bsK t).size ≤ maxLen) := by
            obtain ⟨u, hu, e⟩ := (HK.out.mem t).1 (List.mem_of_getElem? ht)
            unfold Hid
            rw [← e, bsK_ky]
            exact HJ0.out u hu
          obtain ⟨b0, off, rfl, hl, c0⟩ := SlS.at_ (SlG.of_row (by omega) hI.2.1) (Below.refl _ _) ht
          have hcall := qs_list hI.1.qs (bsK t)
          rw [show (bsK t).data.toList = t by simp, hI.2.2.1.rest j t (Nat.le_refl _) ht] at hcall
          obtain ⟨M, hM⟩ : ∃ M, M = lsQ t L0 := ⟨_, rfl⟩
          rw [← hM] at hcall
          have HM := hid hM
          obtain ⟨mm, hmm⟩ : ∃ mm, mm = M.length := ⟨_, rfl⟩
          rw [← hmm] at hcall
          have HMM := hid hmm
          have hmb : (mm : Int) ≤ 300 := by
            have h1 : (lsQ t L0).length ≤ L0.length := List.length_filter_le _ _
            have := HLN.out
            rw [← hM] at h1
            omega
          obtain ⟨a5, ha5⟩ : ∃ a, a = wr.heap.size := ⟨_, rfl⟩
          rw [← ha5] at hcall
          have HA5 := hid ha5
          have HI2 := hid hI
          rename World => wo
          clear ht hj hjn hM hmm ha5 hI HI
          go_wp2_with fail
          refine hcall.mono ?_
          rintro e w5 ⟨vl, rfl, hrow, hb5⟩
          rw [HA5.out] at hb5
          obtain ⟨A5, cap5, rfl⟩ := rowR_shape hrow
          have HI5 : Hid (∃ L', QP w w5 q L' i (fun k => (Value.slice (some ⟨b0, off, none⟩) N cap4).ownBlock = some k ∨ (Value.slice A5 mm cap5).ownBlock = some k) ∧ w5.ownsRow a4 9 1 (.slice (some ⟨b0, off, none⟩) N cap4) N (flatR 1 fK ks) ∧ w5.ownsRow a5 29 3 (.slice A5 mm cap5) mm (flatR 3 fW M) ∧ In L0 ks j t (M.drop 0) L' ∧ L'.length = m) :=
            ⟨L', HI2.out.1.add hb5 (fun k hk => hk.elim .inl (fun e => .inr (by rw [← HA5.out]; exact (hrow.lt k e).1))), rowR_below HI2.out.2.1 hb5, hrow, by rw [List.drop_zero, HM.out]; exact HI2.out.2.2.1.enter HT.out, HI2.out.2.2.2⟩
          clear hcall hrow hb5 HA5 c0 HI2 hl
          go_wp2_with fail
          go_loopw [4, 9] (fun mv kv wr => ∃ (k m : Nat), k ≤ mm ∧ mv = .int .i64 m ∧ kv = .int .i64 k ∧ Hid (∃ L', QP w wr q L' i (fun k => (Value.slice (some ⟨b0, off, none⟩) N cap4).ownBlock = some k ∨ (Value.slice A5 mm cap5).ownBlock = some k) ∧ wr.ownsRow a4 9 1 (.slice (some ⟨b0, off, none⟩) N cap4) N (flatR 1 fK ks) ∧ wr.ownsRow a5 29 3 (.slice A5 mm cap5) mm (flatR 3 fW M) ∧ In L0 ks j t (M.drop k) L' ∧ L'.length = m)) (fun _ kv _ => mm - (intOf kv).toNat)
          case atStart => exact ⟨0, m, Nat.zero_le _, rfl, rfl, HI5⟩
          case round =>
            clear HI5
            obtain ⟨k, m, hk, rfl, rfl, HI⟩ := hrel
            obtain ⟨L', hI⟩ := HI.out
            by_cases hkn : k < mm
            · have HK2 : Hid (k + 1 ≤ mm) := hkn
              have HM2 : Hid (mm - (k + 1) < mm - k) := by unfold Hid; omega
              have hkk : (k : Int) < (mm : Int) := by omega
              have hkb : (k : Int) ≤ 300 := by omega
              obtain ⟨u, hu⟩ : ∃ u, M[k]? = some u := ⟨_, List.getElem?_eq_getElem (by have := HMM.out; omega)⟩
              have hdr : M.drop k = u :: M.drop (k + 1) := by
                obtain ⟨h1, h2⟩ := List.getElem?_eq_some_iff.1 hu
                rw [List.drop_eq_getElem_cons h1, h2]
              have huM : u ∈ lsQ t L0 := by rw [← HM.out]; exact List.mem_of_getElem? hu
              have hut : u.ten = bsK t := by rw [← (mem_lsQ.1 huM).2, bsK_ky]
              have hcall := qs_head hI.1.qs (s := bsK t) HTZ.out
              rw [show (bsK t).data.toList = t by simp, hI.2.2.2.1.here, hdr, show ((u :: M.drop (k + 1)).head?) = some u from rfl] at hcall
              simp only [got, gotE, Option.getD_some, Option.isSome_some, if_true, wtV, hut] at hcall
              obtain ⟨b1, off1, e1, hl0, c0⟩ := SlS.at_ (SlG.of_row (by omega) hI.2.1) (Below.refl _ _) HT.out
              injection e1 with e1
              injection e1 with e1 e2
              subst e1 e2
              obtain ⟨b5, off5, rfl, hl5, hd⟩ := SlG.one (SlG.of_row (by omega) hI.2.2.1) (Below.refl _ _) hu
              have HD : Hid (∀ X, Below wr.heap.size wr X → b5 < X.heap.size ∧ X.cell? ⟨b5, off5 + k * 3, none⟩ = some (.int .i64 u.job) ∧ X.cell? ⟨b5, off5 + k * 3 + 1, none⟩ = some (.string (bsK t)) ∧ X.cell? ⟨b5, off5 + k * 3 + 2, none⟩ = some (.int .i64 u.pri) ∧ b0 < X.heap.size ∧ X.cell? ⟨b0, off + j, none⟩ = some (.string (bsK t))) := fun X hX => by
                have q0 : wr.cell? ⟨b5, off5 + k * 3, none⟩ = some (.int .i64 u.job) := hd 0 (by omega)
                have q1 : wr.cell? ⟨b5, off5 + k * 3 + 1, none⟩ = some (.string u.ten) := hd 1 (by omega)
                have q2 : wr.cell? ⟨b5, off5 + k * 3 + 2, none⟩ = some (.int .i64 u.pri) := hd 2 (by omega)
                rw [hut] at q1
                exact ⟨Nat.lt_of_lt_of_le hl5 hX.size, (hX.cell (p := ⟨b5, off5 + k * 3, none⟩) hl5).trans q0, (hX.cell (p := ⟨b5, off5 + k * 3 + 1, none⟩) hl5).trans q1, (hX.cell (p := ⟨b5, off5 + k * 3 + 2, none⟩) hl5).trans q2, Nat.lt_of_lt_of_le hl0 hX.size, (hX.cell (p := ⟨b0, off + j, none⟩) hl0).trans c0⟩
              have HDP : Hid (∀ p t', ks[p]? = some t' → wr.cell? ⟨b0, off + p, none⟩ = some (.string (bsK t'))) := fun p t' hp => by
                obtain ⟨b9, off9, e9, -, q⟩ := SlS.at_ (SlG.of_row (by omega) hI.2.1) (Below.refl _ _) hp
                injection e9 with e9
                injection e9 with e9 e10
                subst e9 e10
                exact q
              have HDR : Hid (∀ r u', M[r]? = some u' → wr.cell? ⟨b5, off5 + r * 3, none⟩ = some (.int .i64 u'.job) ∧ wr.cell? ⟨b5, off5 + r * 3 + 2, none⟩ = some (.int .i64 u'.pri)) := fun r u' hr => by
                obtain ⟨b9, off9, e9, -, q⟩ := SlG.one (SlG.of_row (by omega) hI.2.2.1) (Below.refl _ _) hr
                injection e9 with e9
                injection e9 with e9 e10
                subst e9 e10
                exact ⟨q 0 (by omega), q 2 (by omega)⟩
              have HLL : Hid (b0 < wr.heap.size ∧ b5 < wr.heap.size) := ⟨hl0, hl5⟩
              have HU := hid hu
              have HUM := hid huM
              have HDRP := hid hdr
              have HI6 := hid hI
              obtain ⟨z, hz⟩ : ∃ z, z = bsK t := ⟨_, rfl⟩
              have HZ := hid hz
              rw [← hz] at hcall c0 HD
              obtain ⟨uj, ut, up⟩ := u
              simp only at hcall HD
              rename World => wi
              clear hu huM hdr hut hd hz hl5 hl0 hI HI hk hkn
              go_wp2_with fail
              refine hcall.mono ?_
              rintro e w7 ⟨rfl, hb7⟩
              have HB7 := hid hb7
              clear hcall hb7 c0
              go_upto_region 19 with fail
              refine wp_name ?_
              intro w8 hw8
              have A8 : w8.heap[w7.heap.size]? = some (.cells #[.int .i64 uj, .string z, .int .i64 up] 29 (0, 0)) := by rw [hw8]; exact (by (repeat (first | (with_reducible assumption) | (with_reducible exact alloc_at _ _) | ((with_reducible apply alloc_at'); (simp; done)) | (with_reducible apply alloc_at_lt) | (with_reducible apply heap_drew_at) | (with_reducible apply heap_drewN_at) | (with_reducible apply heap_setCell_same) | ((with_reducible apply heap_set_ne); (first | omega | (dsimp only; omega) | (simp; done) | (simp; omega))) | (with_reducible apply setRow_at) | ((with_reducible apply setRow_ne); (first | omega | (dsimp only; omega) | (simp; done) | (simp; omega))))))
              have B78 : Below w7.heap.size w7 w8 := by rw [hw8]; exact (by repeat (first | with_reducible assumption | with_reducible exact Below.refl _ _ | with_reducible refine Below.drew ?_ | with_reducible refine below_drewN ?_ _ | with_reducible refine below_alloc ?_ _ | with_reducible refine Below.alloc ?_ (by first | omega | (simp; done) | (simp; omega)) _ | with_reducible refine Below.setCell ?_ (by first | omega | (simp; done) | (simp; omega)) _ | with_reducible refine below_setRow ?_ (by first | omega | (simp; done) | (simp; omega)) _))
              have HB8 : Hid (Below wi.heap.size wi w8) := HB7.out.trans (B78.mono HB7.out.size)
              obtain ⟨X, hX⟩ : ∃ X, X = w7.heap.size := ⟨_, rfl⟩
              rw [← hX] at A8 ⊢
              have HA8 := hid A8
              clear hw8 B78 hX A8 HB7
              go_cut [101] (fun s wx => s = .bool false ∧ Below w8.heap.size w8 wx)
              case first =>
                obtain ⟨dl, d0, d1, d2, tl, tc⟩ := HD.out w8 HB8.out
                have xl := lt_of_at HA8.out
                have x0 : w8.cell? ⟨X, 0, none⟩ = some (.int .i64 uj) := (blk_cell HA8.out 0).trans rfl
                have x1 : w8.cell? ⟨X, 1, none⟩ = some (.string z) := (blk_cell HA8.out 1).trans rfl
                have x2 : w8.cell? ⟨X, 2, none⟩ = some (.int .i64 up) := (blk_cell HA8.out 2).trans rfl
                have hEq := eqWq uj up z
                have hz2 : (z.toList == z.toList) = true := by simp
                rcases Nat.eq_zero_or_pos j with hj0 | hj0
                · have hg1 : decide (0 < j) = false := by simp; omega
                  have hg2 : decide ((0 : Int) < (j : Int)) = false := by simp; omega
                  clear hj0
                  go_quiet (fail)
                  go_wp2_with fail
                  go_meet
                  exact ⟨rfl, (by repeat (first | with_reducible assumption | with_reducible exact Below.refl _ _ | with_reducible refine Below.drew ?_ | with_reducible refine below_drewN ?_ _ | with_reducible refine below_alloc ?_ _ | with_reducible refine Below.alloc ?_ (by first | omega | (simp; done) | (simp; omega)) _ | with_reducible refine Below.setCell ?_ (by first | omega | (simp; done) | (simp; omega)) _ | with_reducible refine below_setRow ?_ (by first | omega | (simp; done) | (simp; omega)) _))⟩
                · have hg1 : decide (0 < j) = true := by simp; omega
                  have hg2 : decide ((0 : Int) < (j : Int)) = true := by simp; omega
                  obtain ⟨p, hp⟩ : ∃ p, p = j - 1 := ⟨_, rfl⟩
                  have iw : IntKind.i64.wrap ((j : Int) - 1) = (p : Int) := by rw [show (j : Int) - 1 = (p : Int) by omega]; exact IntWalk.i64_in _ (by omega)
                  have hpN : (p : Int) < (N : Int) := by omega
                  obtain ⟨t', ht'⟩ : ∃ t', ks[p]? = some t' := ⟨_, List.getElem?_eq_getElem (by have := HNN.out.1; omega)⟩
                  have tp : w8.cell? ⟨b0, off + p, none⟩ = some (.string (bsK t')) := (HB8.out.cell (p := ⟨b0, off + p, none⟩) HLL.out.1).trans (HDP.out p t' ht')
                  have hlt : Op.bytesLess (bsK t').toList z.toList = true := by
                    rw [bytesLess_eq, decide_eq_true_eq, Go.Lib.toList_data, Go.Lib.toList_data, HZ.out]
                    obtain ⟨h1, h2⟩ := List.getElem?_eq_some_iff.1 ht'
                    obtain ⟨h4, h5⟩ := List.getElem?_eq_some_iff.1 HT.out
                    have := List.pairwise_iff_getElem.1 HK.out.pw p j h1 h4 (by omega)
                    rw [h2, h5] at this
                    simpa using this
                  obtain ⟨z', hz'⟩ : ∃ z', z' = bsK t' := ⟨_, rfl⟩
                  rw [← hz'] at tp hlt
                  have hge := fun W => run_geqS hlt W
                  clear hj0 hp ht' hz' hlt
                  go_quiet (fail)
                  go_wp2_with fail
                  go_meet
                  exact ⟨rfl, (by repeat (first | with_reducible assumption | with_reducible exact Below.refl _ _ | with_reducible refine Below.drew ?_ | with_reducible refine below_drewN ?_ _ | with_reducible refine below_alloc ?_ _ | with_reducible refine Below.alloc ?_ (by first | omega | (simp; done) | (simp; omega)) _ | with_reducible refine Below.setCell ?_ (by first | omega | (simp; done) | (simp; omega)) _ | with_reducible refine below_setRow ?_ (by first | omega | (simp; done) | (simp; omega)) _))⟩
              case rest =>
                obtain ⟨rfl, hb9⟩ := hcut
                obtain ⟨w9, rfl⟩ : ∃ wx_ : World, wx_ = wc := ⟨_, rfl⟩
                have HB9 : Hid (Below wi.heap.size wi w9) := HB8.out.trans (hb9.mono HB8.out.size)
                have HA9 := hid ((hb9.block _ (lt_of_at HA8.out)).trans HA8.out)
                clear hb9 HA8 HB8
                go_upto_region 21 with fail
                go_cut [136] (fun s wx => s = .bool false ∧ Below w9.heap.size w9 wx)
                case first =>
                  obtain ⟨dl, -, -, -, -, -⟩ := HD.out w9 HB9.out
                  have xl := lt_of_at HA9.out
                  have x0 : w9.cell? ⟨X, 0, none⟩ = some (.int .i64 uj) := (blk_cell HA9.out 0).trans rfl
                  have x2 : w9.cell? ⟨X, 2, none⟩ = some (.int .i64 up) := (blk_cell HA9.out 2).trans rfl
                  rcases Nat.eq_zero_or_pos k with hk0 | hk0
                  · have hg1 : decide (0 < k) = false := by simp; omega
                    have hg2 : decide ((0 : Int) < (k : Int)) = false := by simp; omega
                    clear hk0
                    go_quiet (fail)
                    go_wp2_with fail
                    go_meet
                    exact ⟨rfl, (by repeat (first | with_reducible assumption | with_reducible exact Below.refl _ _ | with_reducible refine Below.drew ?_ | with_reducible refine below_drewN ?_ _ | with_reducible refine below_alloc ?_ _ | with_reducible refine Below.alloc ?_ (by first | omega | (simp; done) | (simp; omega)) _ | with_reducible refine Below.setCell ?_ (by first | omega | (simp; done) | (simp; omega)) _ | with_reducible refine below_setRow ?_ (by first | omega | (simp; done) | (simp; omega)) _))⟩
                  · have hg1 : decide (0 < k) = true := by simp; omega
                    have hg2 : decide ((0 : Int) < (k : Int)) = true := by simp; omega
                    obtain ⟨r, hr⟩ : ∃ r, r = k - 1 := ⟨_, rfl⟩
                    have iw : IntKind.i64.wrap ((k : Int) - 1) = (r : Int) := by rw [show (k : Int) - 1 = (r : Int) by omega]; exact IntWalk.i64_in _ (by omega)
                    have hrm : (r : Int) < (mm : Int) := by omega
                    obtain ⟨u', hu'⟩ : ∃ u', M[r]? = some u' := ⟨_, List.getElem?_eq_getElem (by have := HMM.out; omega)⟩
                    obtain ⟨s0, s2⟩ := HDR.out r u' hu'
                    have e0 : w9.cell? ⟨b5, off5 + r * 3, none⟩ = some (.int .i64 u'.job) := (HB9.out.cell (p := ⟨b5, off5 + r * 3, none⟩) HLL.out.2).trans s0
                    have e2 : w9.cell? ⟨b5, off5 + r * 3 + 2, none⟩ = some (.int .i64 u'.pri) := (HB9.out.cell (p := ⟨b5, off5 + r * 3 + 2, none⟩) HLL.out.2).trans s2
                    have hbe : up < u'.pri ∨ (up = u'.pri ∧ u'.job < uj) := by
                      have hp : M.Pairwise befQ := by rw [HM.out]; exact (HS0.out.ls t).pw
                      have h1 := pw_at hp (show r < k by omega) hu' HU.out
                      have h2 : u' ∈ lsQ t L0 := by rw [← HM.out]; exact List.mem_of_getElem? hu'
                      rcases h1 with h1 | ⟨-, h1⟩
                      · rw [(mem_lsQ.1 h2).2, (mem_lsQ.1 HUM.out).2] at h1
                        exact absurd h1 (lt_irr _)
                      · exact h1
                    generalize u'.job = u'j at *
                    generalize u'.pri = u'p at *
                    clear hk0 hr hu' s0 s2
                    have hq1 : ¬ u'p < up := by omega
                    by_cases hpe : u'p = up
                    · have hq2 : ¬ uj ≤ u'j := by omega
                      clear hbe
                      subst hpe
                      go_quiet (fail)
                      go_wp2_with fail
                      go_meet
                      exact ⟨rfl, (by repeat (first | with_reducible assumption | with_reducible exact Below.refl _ _ | with_reducible refine Below.drew ?_ | with_reducible refine below_drewN ?_ _ | with_reducible refine below_alloc ?_ _ | with_reducible refine Below.alloc ?_ (by first | omega | (simp; done) | (simp; omega)) _ | with_reducible refine Below.setCell ?_ (by first | omega | (simp; done) | (simp; omega)) _ | with_reducible refine below_setRow ?_ (by first | omega | (simp; done) | (simp; omega)) _))⟩
                    · clear hbe
                      go_quiet (fail)
                      go_wp2_with fail
                      go_meet
                      exact ⟨rfl, (by repeat (first | with_reducible assumption | with_reducible exact Below.refl _ _ | with_reducible refine Below.drew ?_ | with_reducible refine below_drewN ?_ _ | with_reducible refine below_alloc ?_ _ | with_reducible refine Below.alloc ?_ (by first | omega | (simp; done) | (simp; omega)) _ | with_reducible refine Below.setCell ?_ (by first | omega | (simp; done) | (simp; omega)) _ | with_reducible refine below_setRow ?_ (by first | omega | (simp; done) | (simp; omega)) _))⟩
                case rest =>
                  obtain ⟨rfl, hb10⟩ := hcut
                  obtain ⟨w10, rfl⟩ : ∃ wx_ : World, wx_ = wc := ⟨_, rfl⟩
                  have HB10 : Hid (Below wi.heap.size wi w10) := HB9.out.trans (hb10.mono HB9.out.size)
                  have A10 := (hb10.block _ (lt_of_at HA9.out)).trans HA9.out
                  have x0 : w10.cell? ⟨X, 0, none⟩ = some (.int .i64 uj) := (blk_cell A10 0).trans rfl
                  have xl := lt_of_at A10
                  clear hb10 HA9 HB9 A10
                  have hI := HI6.out
                  have hq10 := hI.1.below HB10.out
                  have hrT := rowR_below hI.2.1 HB10.out
                  have hrL := rowR_below hI.2.2.1 HB10.out
                  have hin := hI.2.2.2.1
                  rw [HDRP.out] at hin
                  have hcall := qp_rem hq10 (fun k hk => hk.elim (fun e => (hrT.lt k e).2) (fun e => (hrL.lt k e).2)) uj (by
                    have hv : (⟨uj, ut, up⟩ : Wt) ∈ L' := by
                      have : (⟨uj, ut, up⟩ : Wt) ∈ lsQ t L' := by rw [hin.here]; exact List.mem_cons_self
                      exact (mem_lsQ.1 this).1
                    have := hI.1.qs.job hv
                    simp only at this
                    exact wf_small (by omega) (by omega))
                  have hv : (⟨uj, ut, up⟩ : Wt) ∈ L' := by
                    have : (⟨uj, ut, up⟩ : Wt) ∈ lsQ t L' := by rw [hin.here]; exact List.mem_cons_self
                    exact (mem_lsQ.1 this).1
                  have hsr := hI.1.qs.srt
                  have hre : remE L' uj = 0 := by
                    unfold remE
                    rw [show fndQ L' uj = some ⟨uj, ut, up⟩ from hsr.fnd hv]; rfl
                  rw [hre] at hcall
                  have hdl := delQ_len hsr hv
                  obtain ⟨m', hm'⟩ : ∃ m', m = m' + 1 := ⟨m - 1, by have := hI.2.2.2.2; omega⟩
                  subst hm'
                  have hmb2 : (m' : Int) ≤ 300 := by
                    have h1 := hI.1.qs.len.1
                    have := HN.out
                    have := hI.2.2.2.2
                    omega
                  have iw1 : IntKind.i64.wrap ((m' : Int) + 1 - 1) = (m' : Int) := by rw [show (m' : Int) + 1 - 1 = (m' : Int) by omega]; exact IntWalk.i64_in _ (by omega)
                  have iw2 : IntKind.i64.wrap (m' : Int) = (m' : Int) := IntWalk.i64_in _ (by omega)
                  have HFIN : Hid (w10.ownsRow a4 9 1 (.slice (some ⟨b0, off, none⟩) N cap4) N (flatR 1 fK ks) ∧ w10.ownsRow a5 29 3 (.slice (some ⟨b5, off5, none⟩) mm cap5) mm (flatR 3 fW M) ∧ In L0 ks j t (M.drop (k + 1)) (delQ uj L') ∧ (delQ uj L').length = m') :=
                    ⟨hrT, hrL, hin.step HK.out.pw HT.out hsr, by simp only at hdl; have := hI.2.2.2.2; omega⟩
                  clear hI hq10 hrT hrL hin hv hsr hre hdl
                  go_wp2_with fail
                  refine hcall.mono ?_
                  rintro e w11 ⟨rfl, hq11, hst⟩
                  have HF : Hid (∃ L', QP w w11 q L' i (fun k => (Value.slice (some ⟨b0, off, none⟩) N cap4).ownBlock = some k ∨ (Value.slice (some ⟨b5, off5, none⟩) mm cap5).ownBlock = some k) ∧ w11.ownsRow a4 9 1 (.slice (some ⟨b0, off, none⟩) N cap4) N (flatR 1 fK ks) ∧ w11.ownsRow a5 29 3 (.slice (some ⟨b5, off5, none⟩) mm cap5) mm (flatR 3 fW M) ∧ In L0 ks j t (M.drop (k + 1)) L' ∧ L'.length = m') :=
                    ⟨_, hq11, hst.row HFIN.out.1 (fun b e => .inl e), hst.row HFIN.out.2.1 (fun b e => .inr e), HFIN.out.2.2.1, HFIN.out.2.2.2⟩
                  clear hcall hq11 hst HFIN x0 xl
                  go_wp2
                  go_roundw
                  case rel => exact ⟨k + 1, m', HK2.out, by go_num, by go_num, HF⟩
                  case measure => have := HM2.out; simp [intOf]; omega
            · obtain rfl : k = mm := by omega
              have hkk : ¬ (k : Int) < (k : Int) := by omega
              have hin := hI.2.2.2.1
              rw [List.drop_of_length_le (by rw [← HMM.out]; exact Nat.le_refl _)] at hin
              have hcall := qs_head hI.1.qs (s := bsK t) HTZ.out
              rw [show (bsK t).data.toList = t by simp, hin.here] at hcall
              have hcall : Calls Try.prog 13 #[.pointer (some ⟨q, 0, none⟩), .string (bsK t)] wr fun e w' => e = .returned (.tuple #[.agg #[.int .i64 0, .string ByteArray.empty, .int .i64 0], .int .i64 3]) ∧ Below wr.heap.size wr w' := hcall
              obtain ⟨b1, off1, e1, hl0, c0⟩ := SlS.at_ (SlG.of_row (by omega) hI.2.1) (Below.refl _ _) HT.out
              injection e1 with e1
              injection e1 with e1 e2
              subst e1 e2
              obtain ⟨z, hz⟩ : ∃ z, z = bsK t := ⟨_, rfl⟩
              rw [← hz] at hcall c0
              have HF : Hid (∀ X, Below wr.heap.size wr X → ∃ L', QP w X q L' i (fun k => (Value.slice (some ⟨b0, off, none⟩) N cap4).ownBlock = some k) ∧ X.ownsRow a4 9 1 (.slice (some ⟨b0, off, none⟩) N cap4) N (flatR 1 fK ks) ∧ Ot L0 ks (j + 1) L' ∧ L'.length = m) := fun X hX =>
                ⟨L', (hI.1.weak fun k hk => .inl hk).below hX, rowR_below hI.2.1 hX, hin.leave HT.out, hI.2.2.2.2⟩
              clear hin hI HI hk hkn hz
              go_wp2_with fail
              refine hcall.mono ?_
              rintro e w7 ⟨rfl, hb7⟩
              have hs7 := hb7.size
              have HF2 : Hid (∀ X, Below w7.heap.size w7 X → ∃ L', QP w X q L' i (fun k => (Value.slice (some ⟨b0, off, none⟩) N cap4).ownBlock = some k) ∧ X.ownsRow a4 9 1 (.slice (some ⟨b0, off, none⟩) N cap4) N (flatR 1 fK ks) ∧ Ot L0 ks (j + 1) L' ∧ L'.length = m) := fun X hX => HF.out X (hb7.trans (hX.mono hb7.size))
              clear hcall hb7 c0 HF
              go_wp2
              go_roundw
              case rel => exact ⟨j + 1, m, HK1.out, by go_num, by go_num, HF2.out _ (by repeat (first | with_reducible assumption | with_reducible exact Below.refl _ _ | with_reducible refine Below.drew ?_ | with_reducible refine below_drewN ?_ _ | with_reducible refine below_alloc ?_ _ | with_reducible refine Below.alloc ?_ (by first | omega | (simp; done) | (simp; omega)) _ | with_reducible refine Below.setCell ?_ (by first | omega | (simp; done) | (simp; omega)) _ | with_reducible refine below_setRow ?_ (by first | omega | (simp; done) | (simp; omega)) _))⟩
              case measure => have := HMS.out; simp [intOf]; omega
        · obtain rfl : j = N := by omega
          have hjj : ¬ (j : Int) < (j : Int) := by omega
          have hLe : L' = [] := by
            have := hI.2.2.1
            rw [HNN.out.1] at this
            exact this.fin HK.out
          subst hLe
          have hm0 : m = 0 := hI.2.2.2.symm
          subst hm0
          have HQ := hid hI.1
          have hlen := qs_len HQ.out.qs
          simp only [List.length_nil] at hlen
          have hT := qs_tens HQ.out.qs
          clear hj hjn hI HI
          go_wp2_with fail
          refine hlen.mono ?_
          rintro e w7 ⟨rfl, rfl⟩
          go_wp2_with fail
          refine hT.mono ?_
          rintro e w8 ⟨v8, ks8, rfl, hk8, hrow8, hb8⟩
          obtain rfl := hk8.unique IsTn.nil
          obtain ⟨A8, cap8, rfl⟩ := rowR_shape hrow8
          have FIN : Hid (Below w.heap.size w w8) := HQ.out.bel.trans (hb8.mono HQ.out.bel.size)
          clear hrow8 hb8 hT hlen
          go_wp2
          go_ret
          exact ⟨by simp, FIN.out⟩
end Go.Proofs.Ytingeijodooocaa
