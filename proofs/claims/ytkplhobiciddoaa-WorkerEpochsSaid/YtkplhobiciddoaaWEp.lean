/- WorkerEpochs' walk: a node's epoch never falls, and a node that is told live has been heard within its lease. -/
import Derived.Test.YtkplhobiciddoaaWHeard
import Derived.Test.YtkplhobiciddoaaWkP
namespace Go.Proofs.Ytkplhobiciddoaa
open Go.RowKit Go.WideShapes
def lastE (L : List Nd) (s : ByteArray) : Int := (getR L s).1.epoch
theorem lastE_some {L : List Nd} {s : ByteArray} {x : Nd} (h : fnd L (ky s) = some x) : lastE L s = x.epoch := by unfold lastE getR; rw [h]
theorem lastE_none {L : List Nd} {s : ByteArray} (h : fnd L (ky s) = none) : lastE L s = 0 := by unfold lastE getR; rw [h]; rfl
theorem ep_put {L : List Nd} {s : ByteArray} {y x : Nd} (hy : fnd L (ky y.name) = none → 0 ≤ y.epoch) (hy2 : ∀ z, fnd L (ky y.name) = some z → z.epoch ≤ y.epoch) (h : fnd (putN L y) (ky s) = some x) : lastE L s ≤ x.epoch := by
  rw [fnd_put] at h
  unfold putA at h
  split at h
  · rename_i e
    cases h
    cases hL : fnd L (ky s) with
    | none => rw [lastE_none hL]; exact hy (by rw [← e]; exact hL)
    | some z => rw [lastE_some hL]; exact hy2 z (by rw [← e]; exact hL)
  · rw [lastE_some h]; exact Int.le_refl _
theorem ep_same {L : List Nd} {s : ByteArray} {x : Nd} (h : fnd L (ky s) = some x) : lastE L s ≤ x.epoch := by rw [lastE_some h]; exact Int.le_refl _
theorem ep_reg {L : List Nd} {s t : ByteArray} {ep now : Int} {v : V} {x : Nd} (h : fnd (regR L t ep v now).2.2 (ky s) = some x) : lastE L s ≤ x.epoch := by
  unfold regR at h
  split at h
  · exact ep_same h
  · split at h
    · exact ep_same h
    · rename_i h1 h2
      split at h
      · rename_i z hz
        split at h
        · exact ep_same h
        · refine ep_put (fun q => ?_) (fun z' hz' => ?_) h
          · simp only at q; rw [hz] at q; cases q
          · simp only at hz'; rw [hz] at hz'; cases hz'; simp only; omega
      · rename_i hz
        split at h
        · exact ep_same h
        · refine ep_put (fun q => ?_) (fun z' hz' => ?_) h
          · simp only; omega
          · simp only at hz'; rw [hz] at hz'; cases hz'
theorem ep_beat {L : List Nd} {s t : ByteArray} {ep now : Int} {x : Nd} (h : fnd (beatR L t ep now).2 (ky s) = some x) : lastE L s ≤ x.epoch := by
  unfold beatR at h
  split at h
  · exact ep_same h
  · rename_i z hz
    split at h
    · exact ep_same h
    · split at h
      · exact ep_same h
      · have hn : ky z.name = ky t := (mem_of_fnd hz).2
        refine ep_put (fun q => ?_) (fun z' hz' => ?_) h
        · simp only at q; rw [hn, hz] at q; cases q
        · simp only at hz'; rw [hn, hz] at hz'; cases hz'; exact Int.le_refl _
theorem ep_exp {L : List Nd} {s : ByteArray} {now : Int} {x : Nd} (h : fnd (expL L now) (ky s) = some x) : lastE L s ≤ x.epoch := by
  unfold expL at h
  rw [fnd_map (exp_name now)] at h
  cases hL : fnd L (ky s) with
  | none => rw [hL] at h; cases h
  | some z =>
    rw [hL] at h
    rw [lastE_some hL]
    cases h
    show z.epoch ≤ (if outN now z then { z with live := false } else z).epoch
    split <;> exact Int.le_refl _
/-- What is told live behind Expire has been heard. -/
theorem live_heard {L : List Nd} {now : Int} : ∀ x ∈ lives (expL L now), ¬ x.seen + 10 ≤ now := by
  intro x hx h
  unfold lives at hx
  rw [List.mem_filter] at hx
  obtain ⟨h1, h2⟩ := hx
  unfold expL at h1
  obtain ⟨z, hz, rfl⟩ := List.mem_map.1 h1
  by_cases e : outN now z = true
  · rw [if_pos e] at h2; cases h2
  · rw [if_neg e] at h h2
    exact e (by simp [outN, h2]; exact h)
set_option maxRecDepth 20000 in
set_option maxHeartbeats 4000000 in
theorem workerEpochs_any (A : Option Addr) (n cap : Nat) (l : List OpW) (s : ByteArray) (w : World) (hl : SlW w A n l) (hs : s.size ≤ maxLen) :
    Calls Try.prog 4 #[.slice A n cap, .string s] w fun e w' => e = .returned (.bool true) ∧ Below w.heap.size w w' := by
  have HL := hid hl
  have HS := hid hs
  clear hl hs
  go_enter Try.func4, Try.ntmps4
  go_wp2_with fail
  refine (awake_any w).mono ?_
  rintro e w1 ⟨rfl, hb1⟩
  have B1 := hid hb1
  clear hb1
  by_cases hn : n ≤ 500
  · have hni : ¬ (500 : Int) < (n : Int) := by omega
    go_wp2_with fail
    refine (new_b w1.heap.size w1 (Nat.le_refl _)).mono ?_
    rintro e w2 ⟨rfl, hb2, hT2⟩
    have BB2 := hid hb2
    have HT2 := hid hT2
    clear hb2 hT2
    go_upto_region 7 with fail
    go_loopw [6, 7, 8] (fun s6 s7 s8 wr => ∃ (j : Nat) (nw : Int) (L : List Nd), j ≤ n ∧ s6 = .int .i64 (lastE L s) ∧ s7 = .int .i64 nw ∧ s8 = .int .i64 j ∧ Hid (0 ≤ nw ∧ nw ≤ 999) ∧ Hid (TabB w1.heap.size wr w1.heap.size L) ∧ Hid (Below w1.heap.size w1 wr)) (fun _ _ i _ => n - (intOf i).toNat)
    case atStart => exact ⟨0, 0, [], Nat.zero_le _, rfl, rfl, rfl, by unfold Hid; omega, HT2, BB2⟩
    case round =>
      obtain ⟨j, nw, L, hj, rfl, rfl, rfl, HN, HT, HB⟩ := hrel
      clear HT2 BB2
      have HBW : Hid (Below w.heap.size w wr) := B1.out.trans (HB.out.mono B1.out.size)
      by_cases hjn : j < n
      · obtain ⟨o, b, off, rfl, hb, hok, hc, -⟩ := HL.out.at HBW.out (Nat.le_refl _) hjn
        obtain ⟨kd, nm, ep, nu, a, b', c, d⟩ := o
        obtain ⟨hnm, hnu0, hnu1⟩ := hok
        simp only at hnm hnu0 hnu1
        have q0 : wr.cell? ⟨b, off + j * 8, none⟩ = some (.int .i64 kd) := (hc 0 (by omega)).trans rfl
        have q1 : wr.cell? ⟨b, off + j * 8 + 1, none⟩ = some (.string nm) := (hc 1 (by omega)).trans rfl
        have q2 : wr.cell? ⟨b, off + j * 8 + 2, none⟩ = some (.int .i64 ep) := (hc 2 (by omega)).trans rfl
        have q3 : wr.cell? ⟨b, off + j * 8 + 3, none⟩ = some (.int .i64 nu) := (hc 3 (by omega)).trans rfl
        have q4 : wr.cell? ⟨b, off + j * 8 + 4, none⟩ = some (.int .i64 a) := (hc 4 (by omega)).trans rfl
        have q5 : wr.cell? ⟨b, off + j * 8 + 5, none⟩ = some (.int .i64 b') := (hc 5 (by omega)).trans rfl
        have q6 : wr.cell? ⟨b, off + j * 8 + 6, none⟩ = some (.int .i64 c) := (hc 6 (by omega)).trans rfl
        have q7 : wr.cell? ⟨b, off + j * 8 + 7, none⟩ = some (.int .i64 d) := (hc 7 (by omega)).trans rfl
        have HNM := hid hnm
        have HJ : Hid (j + 1 ≤ n) := hjn
        have HM : Hid (n - (j + 1) < n - j) := by unfold Hid; omega
        have iwj : IntKind.i64.wrap ((j : Int) + 1) = (j : Int) + 1 := IntWalk.i64_in _ (by omega)
        have hji : (j : Int) < (n : Int) := by omega
        clear hc hnm hj hjn hn
        go_upto_region 11 with fail
        have ht : nu.tmod 1000 ≤ 999 := by have := Int.tmod_lt_of_pos nu (show (0 : Int) < 1000 by omega); omega
        have hm0 : 0 ≤ max nw (nu.tmod 1000) := by have := HN.out.1; omega
        have hm1 : max nw (nu.tmod 1000) ≤ 999 := by have := HN.out.2; omega
        clear HN
        generalize max nw (nu.tmod 1000) = nw at hm0 hm1 ⊢
        have HN : Hid (0 ≤ nw ∧ nw ≤ 999) := ⟨hm0, hm1⟩
        obtain ⟨la, hla⟩ : ∃ la, la = lastE L s := ⟨_, rfl⟩
        have HLA : Hid (lastE L s = la) := hla.symm
        rw [← hla]
        clear hla ht hnu0 hnu1 q0 q1 q2 q3 q4 q5 q6 q7 hb
        have HB3 : Hid (Below wr.heap.size wr (wr.alloc (.cells #[.int .i64 kd, .string nm, .int .i64 ep, .int .i64 nu, .int .i64 a, .int .i64 b', .int .i64 c, .int .i64 d] 41))) := (Below.refl _ _).alloc (Nat.le_refl _) _
        by_cases k1 : kd = 1
        · subst k1
          go_wp2_with fail
          refine (register_any w1.heap.size w1.heap.size L nm ep a b' c d nw _ (HT.out.below HB3.out) HNM.out).mono ?_
          rintro e w4 ⟨rfl, hT4, hB4, -⟩
          have HT4 := hid hT4
          have HB4 : Hid (Below w1.heap.size w1 w4) := (HB.out.trans (HB3.out.mono HB.out.size)).trans hB4
          clear hT4 hB4
          obtain ⟨L', hL'⟩ : ∃ L', L' = (regR L nm ep (a, b', c, d) nw).2.2 := ⟨_, rfl⟩
          have hep : ∀ x, fnd L' (ky s) = some x → ¬ x.epoch < la := fun x hx => by
            rw [hL'] at hx
            have := ep_reg hx
            rw [← HLA.out]
            omega
          rw [← hL'] at HT4
          clear hL'
          cases hf : fnd L' (ky s) with
          | none =>
            have hg := get_b w1.heap.size w1.heap.size L' s w4 HT4.out HS.out
            rw [show getR L' s = (zeroN, 3) by unfold getR; rw [hf]] at hg
            simp only [ndV, cellsN, zeroN, zeroV] at hg
            have HLN : Hid (lastE L' s = 0) := lastE_none hf
            clear hf hep
            go_wp2_with fail
            refine hg.mono ?_
            rintro e wz ⟨rfl, hbz⟩
            have HTZ : Hid (TabB w1.heap.size (wz.alloc (.cells #[.string ⟨#[]⟩, .int .i64 0, .int .i64 0, .int .i64 0, .int .i64 0, .int .i64 0, .int .i64 0, .bool false] 34)) w1.heap.size L') := (HT4.out.below hbz).below (below_alloc (Below.refl _ _) _)
            have HBZ : Hid (Below w1.heap.size w1 wz) := HB4.out.trans (hbz.mono HB4.out.size)
            have HBZ2 : Hid (Below w1.heap.size w1 (wz.alloc (.cells #[.string ⟨#[]⟩, .int .i64 0, .int .i64 0, .int .i64 0, .int .i64 0, .int .i64 0, .int .i64 0, .bool false] 34))) := HBZ.out.alloc HBZ.out.size _
            clear hg hbz
            go_wp2
            go_roundw
            case rel => exact ⟨j + 1, nw, L', HJ.out, by rw [HLN.out], rfl, by go_num, HN, HTZ, HBZ2⟩
            case measure => have := HM.out; simp [intOf]; omega
          | some x =>
            have hg := get_b w1.heap.size w1.heap.size L' s w4 HT4.out HS.out
            rw [show getR L' s = (x, 0) by unfold getR; rw [hf]] at hg
            have HLN : Hid (lastE L' s = x.epoch) := lastE_some hf
            have hxe := hep x hf
            obtain ⟨nx, ex, ⟨cx0, cx1, cx2, cx3⟩, sx, lx⟩ := x
            obtain rfl : nx = s := bytes_inj (mem_of_fnd hf).2
            simp only [ndV, cellsN] at hg
            simp only at hxe
            clear hf hep
            go_wp2_with fail
            refine hg.mono ?_
            rintro e wz ⟨rfl, hbz⟩
            have HTZ : Hid (TabB w1.heap.size (wz.alloc (.cells #[.string nx, .int .i64 ex, .int .i64 cx0, .int .i64 cx1, .int .i64 cx2, .int .i64 cx3, .int .i64 sx, .bool lx] 34)) w1.heap.size L') := (HT4.out.below hbz).below (below_alloc (Below.refl _ _) _)
            have HBZ : Hid (Below w1.heap.size w1 wz) := HB4.out.trans (hbz.mono HB4.out.size)
            have HBZ2 : Hid (Below w1.heap.size w1 (wz.alloc (.cells #[.string nx, .int .i64 ex, .int .i64 cx0, .int .i64 cx1, .int .i64 cx2, .int .i64 cx3, .int .i64 sx, .bool lx] 34))) := HBZ.out.alloc HBZ.out.size _
            clear hg hbz
            go_wp2
            go_roundw
            case rel => exact ⟨j + 1, nw, L', HJ.out, by rw [HLN.out], rfl, by go_num, HN, HTZ, HBZ2⟩
            case measure => have := HM.out; simp [intOf]; omega
        · by_cases k2 : kd = 2
          · subst k2
            go_wp2_with fail
            refine (beat_any w1.heap.size w1.heap.size L nm ep nw _ (HT.out.below HB3.out) HNM.out).mono ?_
            rintro e w4 ⟨rfl, hT4, hB4, -⟩
            have HT4 := hid hT4
            have HB4 : Hid (Below w1.heap.size w1 w4) := (HB.out.trans (HB3.out.mono HB.out.size)).trans hB4
            clear hT4 hB4
            obtain ⟨L', hL'⟩ : ∃ L', L' = (beatR L nm ep nw).2 := ⟨_, rfl⟩
            have hep : ∀ x, fnd L' (ky s) = some x → ¬ x.epoch < la := fun x hx => by
              rw [hL'] at hx
              have := ep_beat hx
              rw [← HLA.out]
              omega
            rw [← hL'] at HT4
            clear hL'
            cases hf : fnd L' (ky s) with
            | none =>
              have hg := get_b w1.heap.size w1.heap.size L' s w4 HT4.out HS.out
              rw [show getR L' s = (zeroN, 3) by unfold getR; rw [hf]] at hg
              simp only [ndV, cellsN, zeroN, zeroV] at hg
              have HLN : Hid (lastE L' s = 0) := lastE_none hf
              clear hf hep
              go_wp2_with fail
              refine hg.mono ?_
              rintro e wz ⟨rfl, hbz⟩
              have HTZ : Hid (TabB w1.heap.size (wz.alloc (.cells #[.string ⟨#[]⟩, .int .i64 0, .int .i64 0, .int .i64 0, .int .i64 0, .int .i64 0, .int .i64 0, .bool false] 34)) w1.heap.size L') := (HT4.out.below hbz).below (below_alloc (Below.refl _ _) _)
              have HBZ : Hid (Below w1.heap.size w1 wz) := HB4.out.trans (hbz.mono HB4.out.size)
              have HBZ2 : Hid (Below w1.heap.size w1 (wz.alloc (.cells #[.string ⟨#[]⟩, .int .i64 0, .int .i64 0, .int .i64 0, .int .i64 0, .int .i64 0, .int .i64 0, .bool false] 34))) := HBZ.out.alloc HBZ.out.size _
              clear hg hbz
              go_wp2
              go_roundw
              case rel => exact ⟨j + 1, nw, L', HJ.out, by rw [HLN.out], rfl, by go_num, HN, HTZ, HBZ2⟩
              case measure => have := HM.out; simp [intOf]; omega
            | some x =>
              have hg := get_b w1.heap.size w1.heap.size L' s w4 HT4.out HS.out
              rw [show getR L' s = (x, 0) by unfold getR; rw [hf]] at hg
              have HLN : Hid (lastE L' s = x.epoch) := lastE_some hf
              have hxe := hep x hf
              obtain ⟨nx, ex, ⟨cx0, cx1, cx2, cx3⟩, sx, lx⟩ := x
              obtain rfl : nx = s := bytes_inj (mem_of_fnd hf).2
              simp only [ndV, cellsN] at hg
              simp only at hxe
              clear hf hep
              go_wp2_with fail
              refine hg.mono ?_
              rintro e wz ⟨rfl, hbz⟩
              have HTZ : Hid (TabB w1.heap.size (wz.alloc (.cells #[.string nx, .int .i64 ex, .int .i64 cx0, .int .i64 cx1, .int .i64 cx2, .int .i64 cx3, .int .i64 sx, .bool lx] 34)) w1.heap.size L') := (HT4.out.below hbz).below (below_alloc (Below.refl _ _) _)
              have HBZ : Hid (Below w1.heap.size w1 wz) := HB4.out.trans (hbz.mono HB4.out.size)
              have HBZ2 : Hid (Below w1.heap.size w1 (wz.alloc (.cells #[.string nx, .int .i64 ex, .int .i64 cx0, .int .i64 cx1, .int .i64 cx2, .int .i64 cx3, .int .i64 sx, .bool lx] 34))) := HBZ.out.alloc HBZ.out.size _
              clear hg hbz
              go_wp2
              go_roundw
              case rel => exact ⟨j + 1, nw, L', HJ.out, by rw [HLN.out], rfl, by go_num, HN, HTZ, HBZ2⟩
              case measure => have := HM.out; simp [intOf]; omega
          · by_cases k3 : kd = 3
            · subst k3
              go_wp2_with fail
              refine (expire_any w1.heap.size w1.heap.size L nw _ (HT.out.below HB3.out)).mono ?_
              rintro e w4 ⟨v4, rfl, -, hT4, hB4, -⟩
              have HT4 := hid hT4
              have HB4 : Hid (Below w1.heap.size w1 w4) := (HB.out.trans (HB3.out.mono HB.out.size)).trans hB4
              clear hT4 hB4
              go_wp2_with fail
              refine (live_b w1.heap.size w1.heap.size _ w4 HT4.out).mono ?_
              rintro e w5 ⟨v5, rfl, hr5, hb5⟩
              have hlv := live_heard (L := L) (now := nw)
              have htm : ∀ x ∈ expL L nw, 0 ≤ x.seen ∧ x.seen ≤ 1099511627776 := by obtain ⟨_, _, _, h⟩ := HT4.out; exact h.tm
              have hle : (lives (expL L nw)).length ≤ 12 := by obtain ⟨_, _, _, h⟩ := HT4.out; exact Nat.le_trans (List.length_filter_le _ _) h.len
              have htm' : ∀ x ∈ lives (expL L nw), 0 ≤ x.seen ∧ x.seen ≤ 1099511627776 := fun x hx => htm x (List.mem_filter.1 hx).1
              obtain ⟨M, hM⟩ : ∃ M, M = lives (expL L nw) := ⟨_, rfl⟩
              rw [← hM] at hr5 hlv hle htm'
              have HLV := hid hlv
              have HTM := hid htm'
              have HR5 := hid hr5
              have HT5 := hid (HT4.out.below hb5)
              have HB5 : Hid (Below w1.heap.size w1 w5) := HB4.out.trans (hb5.mono HB4.out.size)
              obtain ⟨A5, c5, rfl⟩ := rowN_slice hr5
              obtain ⟨m5, hm5⟩ : ∃ m5, m5 = M.length := ⟨_, rfl⟩
              rw [← hm5] at hle HR5
              rw [← hm5]
              have HM5 := hid hm5
              clear hlv htm htm' hr5 hb5 hM hm5
              go_upto_region 20 with fail
              go_loopw [11] (fun i wx => ∃ q : Nat, q ≤ m5 ∧ i = .int .i64 q ∧ wx = w5) (fun i _ => m5 - (intOf i).toNat)
              case atStart => exact ⟨0, Nat.zero_le _, rfl, rfl⟩
              case round =>
                obtain ⟨q, hq, rfl, rfl⟩ := hrel
                by_cases hql : q < m5
                · obtain ⟨g5, cap5, he5, -, hgl, -, -, hcell⟩ := rowN_cells HR5.out HM5.out (by have := HM5.out; omega)
                  have hqM : q < M.length := by have := HM5.out; omega
                  injection he5 with e1 e2 e3
                  subst e1
                  obtain ⟨sn, hsn⟩ : ∃ sn, sn = M[q].seen := ⟨_, rfl⟩
                  have q6 : wr.cell? ⟨g5, q * 8 + 6, none⟩ = some (.int .i64 sn) := (hcell q hqM 6 (by omega)).trans (by rw [hsn]; rfl)
                  have hs0 := HLV.out M[q] (List.getElem_mem _)
                  have hs1 := HTM.out M[q] (List.getElem_mem _)
                  rw [← hsn] at hs0 hs1
                  have iws : IntKind.i64.wrap (sn + 10) = sn + 10 := IntWalk.i64_in _ (by omega)
                  have iwq : IntKind.i64.wrap ((q : Int) + 1) = (q : Int) + 1 := IntWalk.i64_in _ (by omega)
                  have HQ : Hid (q + 1 ≤ m5) := hql
                  have HQM : Hid (m5 - (q + 1) < m5 - q) := by unfold Hid; omega
                  clear hcell hsn e2 e3 hq hs1 hqM
                  go_wp2
                  go_roundw
                  case rel => exact ⟨q + 1, HQ.out, by go_num, by first | trivial | rfl⟩
                  case measure => have := HQM.out; simp [intOf]; omega
                · obtain rfl : q = m5 := by omega
                  obtain ⟨L', hL'⟩ : ∃ L', L' = (expL L nw) := ⟨_, rfl⟩
                  have hep : ∀ x, fnd L' (ky s) = some x → ¬ x.epoch < la := fun x hx => by
                    rw [hL'] at hx
                    have := ep_exp hx
                    rw [← HLA.out]
                    omega
                  rw [← hL'] at HT5
                  clear hL'
                  cases hf : fnd L' (ky s) with
                  | none =>
                    have hg := get_b w1.heap.size w1.heap.size L' s wr HT5.out HS.out
                    rw [show getR L' s = (zeroN, 3) by unfold getR; rw [hf]] at hg
                    simp only [ndV, cellsN, zeroN, zeroV] at hg
                    have HLN : Hid (lastE L' s = 0) := lastE_none hf
                    clear hf hep
                    go_wp2_with fail
                    refine hg.mono ?_
                    rintro e wz ⟨rfl, hbz⟩
                    have HTZ : Hid (TabB w1.heap.size (wz.alloc (.cells #[.string ⟨#[]⟩, .int .i64 0, .int .i64 0, .int .i64 0, .int .i64 0, .int .i64 0, .int .i64 0, .bool false] 34)) w1.heap.size L') := (HT5.out.below hbz).below (below_alloc (Below.refl _ _) _)
                    have HBZ : Hid (Below w1.heap.size w1 wz) := HB5.out.trans (hbz.mono HB5.out.size)
                    have HBZ2 : Hid (Below w1.heap.size w1 (wz.alloc (.cells #[.string ⟨#[]⟩, .int .i64 0, .int .i64 0, .int .i64 0, .int .i64 0, .int .i64 0, .int .i64 0, .bool false] 34))) := HBZ.out.alloc HBZ.out.size _
                    clear hg hbz
                    go_wp2
                    go_roundw
                    case rel => exact ⟨j + 1, nw, L', HJ.out, by rw [HLN.out], rfl, by go_num, HN, HTZ, HBZ2⟩
                    case measure => have := HM.out; simp [intOf]; omega
                  | some x =>
                    have hg := get_b w1.heap.size w1.heap.size L' s wr HT5.out HS.out
                    rw [show getR L' s = (x, 0) by unfold getR; rw [hf]] at hg
                    have HLN : Hid (lastE L' s = x.epoch) := lastE_some hf
                    have hxe := hep x hf
                    obtain ⟨nx, ex, ⟨cx0, cx1, cx2, cx3⟩, sx, lx⟩ := x
                    obtain rfl : nx = s := bytes_inj (mem_of_fnd hf).2
                    simp only [ndV, cellsN] at hg
                    simp only at hxe
                    clear hf hep
                    go_wp2_with fail
                    refine hg.mono ?_
                    rintro e wz ⟨rfl, hbz⟩
                    have HTZ : Hid (TabB w1.heap.size (wz.alloc (.cells #[.string nx, .int .i64 ex, .int .i64 cx0, .int .i64 cx1, .int .i64 cx2, .int .i64 cx3, .int .i64 sx, .bool lx] 34)) w1.heap.size L') := (HT5.out.below hbz).below (below_alloc (Below.refl _ _) _)
                    have HBZ : Hid (Below w1.heap.size w1 wz) := HB5.out.trans (hbz.mono HB5.out.size)
                    have HBZ2 : Hid (Below w1.heap.size w1 (wz.alloc (.cells #[.string nx, .int .i64 ex, .int .i64 cx0, .int .i64 cx1, .int .i64 cx2, .int .i64 cx3, .int .i64 sx, .bool lx] 34))) := HBZ.out.alloc HBZ.out.size _
                    clear hg hbz
                    go_wp2
                    go_roundw
                    case rel => exact ⟨j + 1, nw, L', HJ.out, by rw [HLN.out], rfl, by go_num, HN, HTZ, HBZ2⟩
                    case measure => have := HM.out; simp [intOf]; omega
            · have e1 : (kd == 1) = false := by simp; exact k1
              have e2 : (kd == 2) = false := by simp; exact k2
              have e3 : (kd == 3) = false := by simp; exact k3
              obtain ⟨w4, hw4⟩ : ∃ w4, w4 = wr.alloc (.cells #[.int .i64 kd, .string nm, .int .i64 ep, .int .i64 nu, .int .i64 a, .int .i64 b', .int .i64 c, .int .i64 d] 41) := ⟨_, rfl⟩
              have HT4 : Hid (TabB w1.heap.size w4 w1.heap.size L) := by rw [hw4]; exact HT.out.below HB3.out
              have HB4 : Hid (Below w1.heap.size w1 w4) := by rw [hw4]; exact HB.out.trans (HB3.out.mono HB.out.size)
              have z0 : w4.cell? ⟨wr.heap.size, 0, none⟩ = some (.int .i64 kd) := by rw [hw4]; exact (blk_cell (alloc_at _ _) 0).trans rfl
              have zl : wr.heap.size < w4.heap.size := by rw [hw4]; simp
              rw [← hw4]
              clear hw4
              obtain ⟨L', hL'⟩ : ∃ L', L' = L := ⟨_, rfl⟩
              have hep : ∀ x, fnd L' (ky s) = some x → ¬ x.epoch < la := fun x hx => by
                rw [hL'] at hx
                have := ep_same hx
                rw [← HLA.out]
                omega
              rw [← hL'] at HT4
              clear hL'
              cases hf : fnd L' (ky s) with
              | none =>
                have hg := get_b w1.heap.size w1.heap.size L' s w4 HT4.out HS.out
                rw [show getR L' s = (zeroN, 3) by unfold getR; rw [hf]] at hg
                simp only [ndV, cellsN, zeroN, zeroV] at hg
                have HLN : Hid (lastE L' s = 0) := lastE_none hf
                clear hf hep
                go_wp2_with fail
                refine hg.mono ?_
                rintro e wz ⟨rfl, hbz⟩
                have HTZ : Hid (TabB w1.heap.size (wz.alloc (.cells #[.string ⟨#[]⟩, .int .i64 0, .int .i64 0, .int .i64 0, .int .i64 0, .int .i64 0, .int .i64 0, .bool false] 34)) w1.heap.size L') := (HT4.out.below hbz).below (below_alloc (Below.refl _ _) _)
                have HBZ : Hid (Below w1.heap.size w1 wz) := HB4.out.trans (hbz.mono HB4.out.size)
                have HBZ2 : Hid (Below w1.heap.size w1 (wz.alloc (.cells #[.string ⟨#[]⟩, .int .i64 0, .int .i64 0, .int .i64 0, .int .i64 0, .int .i64 0, .int .i64 0, .bool false] 34))) := HBZ.out.alloc HBZ.out.size _
                clear hg hbz
                go_wp2
                go_roundw
                case rel => exact ⟨j + 1, nw, L', HJ.out, by rw [HLN.out], rfl, by go_num, HN, HTZ, HBZ2⟩
                case measure => have := HM.out; simp [intOf]; omega
              | some x =>
                have hg := get_b w1.heap.size w1.heap.size L' s w4 HT4.out HS.out
                rw [show getR L' s = (x, 0) by unfold getR; rw [hf]] at hg
                have HLN : Hid (lastE L' s = x.epoch) := lastE_some hf
                have hxe := hep x hf
                obtain ⟨nx, ex, ⟨cx0, cx1, cx2, cx3⟩, sx, lx⟩ := x
                obtain rfl : nx = s := bytes_inj (mem_of_fnd hf).2
                simp only [ndV, cellsN] at hg
                simp only at hxe
                clear hf hep
                go_wp2_with fail
                refine hg.mono ?_
                rintro e wz ⟨rfl, hbz⟩
                have HTZ : Hid (TabB w1.heap.size (wz.alloc (.cells #[.string nx, .int .i64 ex, .int .i64 cx0, .int .i64 cx1, .int .i64 cx2, .int .i64 cx3, .int .i64 sx, .bool lx] 34)) w1.heap.size L') := (HT4.out.below hbz).below (below_alloc (Below.refl _ _) _)
                have HBZ : Hid (Below w1.heap.size w1 wz) := HB4.out.trans (hbz.mono HB4.out.size)
                have HBZ2 : Hid (Below w1.heap.size w1 (wz.alloc (.cells #[.string nx, .int .i64 ex, .int .i64 cx0, .int .i64 cx1, .int .i64 cx2, .int .i64 cx3, .int .i64 sx, .bool lx] 34))) := HBZ.out.alloc HBZ.out.size _
                clear hg hbz
                go_wp2
                go_roundw
                case rel => exact ⟨j + 1, nw, L', HJ.out, by rw [HLN.out], rfl, by go_num, HN, HTZ, HBZ2⟩
                case measure => have := HM.out; simp [intOf]; omega
      · obtain rfl : j = n := by omega
        go_wp2
        go_ret
        exact ⟨rfl, HBW.out⟩
  · have hni : (500 : Int) < (n : Int) := by omega
    go_wp2_with fail
    refine (awake_any w1).mono ?_
    rintro e w2 ⟨rfl, hb2⟩
    have B2 := B1.out.trans (hb2.mono B1.out.size)
    go_wp2
    go_ret
    exact ⟨rfl, B2⟩
end Go.Proofs.Ytkplhobiciddoaa
