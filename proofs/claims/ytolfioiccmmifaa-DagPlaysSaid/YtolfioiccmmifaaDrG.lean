/- Chapter 12's reference graph: Add. -/
import Derived.Test.YtolfioiccmmifaaDrF
namespace Go.Proofs.Ytolfioiccmmifaa
open Go.RowKit
variable {B H g cap : Nat} {w w' wr : World} {P P' : Nat → Value} {G G' : Gr} {J J' : List Nat} {v v' : Value}
/-- What Add answers, and what is there behind it. -/
inductive AddR (B H : Nat) (w : World) (v : Value) (P : Nat → Value) (G : Gr) (J : List Nat) (id : Int) (zs : List Int) (e : Ending) (w' : World) : Prop
  | range : ¬ (okId id ∧ ∀ z ∈ zs, okId z) → e = .returned (.tuple #[.bool false, .int .i64 2]) → Below w.heap.size w w' → AddR B H w v P G J id zs e w'
  | twice : (okId id ∧ ∀ z ∈ zs, okId z) → G.st id.toNat ≠ 0 → e = .returned (.tuple #[.bool false, .int .i64 5]) → Below w.heap.size w w' → AddR B H w v P G J id zs e w'
  | cycle : (okId id ∧ ∀ z ∈ zs, okId z) → G.st id.toNat = 0 → (∃ p ∈ dd zs, p = id.toNat ∨ G.Rch id.toNat p) → e = .returned (.tuple #[.bool false, .int .i64 8]) → Below w.heap.size w w' → AddR B H w v P G J id zs e w'
  | state : (okId id ∧ ∀ z ∈ zs, okId z) → G.st id.toNat = 0 → (∀ p ∈ dd zs, p ≠ id.toNat ∧ ¬ G.Rch id.toNat p) → (∃ p ∈ dd zs, G.st p = 3) → e = .returned (.tuple #[.bool false, .int .i64 10]) → Below w.heap.size w w' → AddR B H w v P G J id zs e w'
  | ok : (okId id ∧ ∀ z ∈ zs, okId z) → G.Fit id.toNat (dd zs) → e = .returned (.tuple #[.bool (decide (G.cntN (dd zs) = 0)), .int .i64 0]) →
      (∃ v' P' J', RefJ B w' H v' P' (G.add id.toNat (dd zs)) J' ∧ J'.Pairwise (· < ·) ∧ (∀ x, x ∈ J' ↔ (G.add id.toNat (dd zs)).st x ≠ 0) ∧ (∀ k, FootW H v' k → FootW H v k ∨ w.heap.size ≤ k) ∧ (∀ x ∈ J', (x ∈ J ∧ P' x = P x) ∨ ∀ k, (P' x).ownBlock = some k → w.heap.size ≤ k)) → Tur (FootW H v) w w' → AddR B H w v P G J id zs e w'
theorem slz_elemZ {A : Option Addr} {n i : Nat} {l : List Int} (h : SlZ w A n l) (hi : i < n) : ∃ b off x, A = some ⟨b, off, none⟩ ∧ b < w.heap.size ∧ l[i]? = some x ∧ ∀ wr, Below w.heap.size w wr → wr.cell? ⟨b, off + i, none⟩ = some (.int .i64 x) := by
  obtain ⟨h1, h2 | ⟨b, off, rfl, hl, hc⟩⟩ := h
  · rw [h2] at h1; simp at h1; omega
  · have hi2 : i < l.length := by omega
    refine ⟨b, off, l[i], rfl, hl, List.getElem?_eq_getElem hi2, fun wr hb => ?_⟩
    rw [hb.cell hl, hc i (by omega), List.getD_eq_getElem?_getD, List.getElem?_eq_getElem hi2]
    rfl
theorem frR_add {y : Nat} {D : List Nat} (_ok : G.Ok) (hJ : ∀ x, x ∈ J ↔ G.st x ≠ 0) (hf : G.Fit y D) (hm : ∀ x, x ∈ J' ↔ x ∈ J ∨ x = y) : decide ((G.add y D).frR J' (y : Int)) = decide (G.cntN D = 0) := by
  have hp : (G.add y D).pa y = D := by rw [add_pa, if_pos rfl]
  have hne : ∀ p ∈ D, (G.add y D).st p = G.st p := fun p hp => upd_ne _ _ (hf.cy p hp).1
  rw [decide_eq_decide]
  unfold Gr.cntN
  rw [countP_zero]
  constructor
  · rintro ⟨z, hz, e, h1, h3⟩ p hpD
    have : z = y := by omega
    subst this
    rw [hp] at h3
    have := (h3 p hpD).2
    rw [hne p hpD] at this
    simp [this]
  · intro h
    refine ⟨y, (hm y).2 (.inr rfl), rfl, upd_same _ _ _, fun p hpD => ?_⟩
    rw [hp] at hpD
    have h2 := h p hpD
    have h3 : G.st p = 2 := by simpa using h2
    refine ⟨(hm p).2 (.inl ((hJ p).2 (by omega))), ?_⟩
    rw [hne p hpD]; exact h3
set_option maxRecDepth 100000 in
set_option maxHeartbeats 16000000 in
theorem radd_g {A : Option Addr} {n c : Nat} {zs : List Int} (id : Int) (h : RefJ B w H v P G J) (hn : J.Pairwise (· < ·)) (ok : G.Ok) (hJ : ∀ x, x ∈ J ↔ G.st x ≠ 0) (hs : SlZ w A n zs) (hn1 : n ≤ 100000) :
    Calls Try.prog 20 #[.pointer (some ⟨H, 0, none⟩), .int .i64 id, .slice A n c] w fun e w' => AddR B H w v P G J id zs e w' := by
  have HV := hid h
  have HN := hid (nodup_of_lt hn)
  have HRISE := hid hn
  have HOK := hid ok
  have HJ := hid hJ
  have HS := hid hs
  have hm : J.length ≤ 100 := len100 (nodup_of_lt hn) fun x hx => ok.rng x ((hJ x).1 hx)
  have HM := hid hm
  have hln : zs.length = n := by have := hs.1; omega
  have HLN := hid hln
  have hnb : (n : Int) ≤ 100000 := by omega
  obtain ⟨A0, c0, rfl⟩ := row_shape h.row
  have hlH := h.ltH
  have HRA := hid (Gath.start w id zs)
  have HE1 : Hid (okId id ↔ (1 ≤ id ∧ id ≤ 100)) := Iff.rfl
  clear h hn ok hJ hs hln hn1 hm
  go_enter Try.func20, Try.ntmps20
  go_upto_region 1 with (fail)
  go_cut [8] (fun s wx => s = .bool (decide (okId id)) ∧ w = wx)
  case first =>
    by_cases h1 : 1 ≤ id
    · by_cases h2 : id ≤ 100
      · have HD := hid (decide_eq_true (HE1.out.2 ⟨h1, h2⟩))
        go_wp2_with fail
        go_meet
        exact ⟨congrArg Value.bool HD.out.symm, rfl⟩
      · have HD := hid (decide_eq_false (fun q => h2 (HE1.out.1 q).2))
        go_wp2_with fail
        go_meet
        exact ⟨congrArg Value.bool HD.out.symm, rfl⟩
    · have HD := hid (decide_eq_false (fun q => h1 (HE1.out.1 q).1))
      go_wp2_with fail
      go_meet
      exact ⟨congrArg Value.bool HD.out.symm, rfl⟩
  case rest =>
  obtain ⟨rfl, rfl⟩ := hcut
  go_wp2_with fail
  go_loopw [8, 9, 10] (fun rv sv iv wr => ∃ (i : Nat) (r : Bool) (M : List Int) (v : Value), i ≤ n ∧ .bool r = rv ∧ v = sv ∧ iv = .int .i64 i ∧ Hid (Gath w wr id zs i r M v)) (fun _ _ iv _ => n - (intOf iv).toNat)
  case atStart => exact ⟨0, _, [], _, Nat.zero_le _, rfl, rfl, rfl, HRA⟩
  case round =>
    clear HRA
    obtain ⟨i, r, M, v, hi, rfl, rfl, rfl, HI⟩ := hrel
    obtain ⟨A5, c5, rfl⟩ := row_shape HI.out.row
    have hMl := HI.out.len
    have hMb : (M.length : Int) ≤ 100 := by omega
    by_cases hin : i < n
    · have HI1 : Hid (i + 1 ≤ n) := hin
      have HMS : Hid (n - (i + 1) < n - i) := by unfold Hid; omega
      have hii : (i : Int) < (n : Int) := by omega
      have hib : (i : Int) ≤ 100000 := by omega
      obtain ⟨b, off, z, rfl, hbl, hz, hcz⟩ := slz_elemZ HS.out hin
      have cz := hcz wr HI.out.bel
      have hbr : b < wr.heap.size := Nat.lt_of_lt_of_le hbl HI.out.bel.size
      have HZ := hid hz
      obtain ⟨r', hr'⟩ : ∃ r', r' = (r && decide (okId z)) := ⟨_, rfl⟩
      have hcase : (r = false ∧ r' = false) ∨ (r = true ∧ ¬ 1 ≤ z ∧ r' = false) ∨ (r = true ∧ 1 ≤ z ∧ ¬ z ≤ 100 ∧ r' = false) ∨ (r = true ∧ 1 ≤ z ∧ z ≤ 100 ∧ r' = true) := by
        rw [hr']
        cases r with
        | false => exact .inl ⟨rfl, rfl⟩
        | true =>
          right
          by_cases h1 : 1 ≤ z
          · right
            by_cases h2 : z ≤ 100
            · exact .inr ⟨rfl, h1, h2, by rw [Bool.true_and]; exact decide_eq_true ⟨h1, h2⟩⟩
            · exact .inl ⟨rfl, h1, h2, by rw [Bool.true_and]; exact decide_eq_false fun q => h2 q.2⟩
          · exact .inl ⟨rfl, h1, by rw [Bool.true_and]; exact decide_eq_false fun q => h1 q.1⟩
      by_cases hM : M.length < 100
      · have HBU : Hid (∀ v' w', PutP w.heap.size wr M z v' w' → ∃ M', Gath w w' id zs (i + 1) r' M' v') := fun v' w' hp => by rw [hr']; exact HI.out.put HZ.out hM hp
        have HPUT := hid (put_g (cap := c5) HI.out.row HI.out.rise (by omega) HI.out.bel.size z)
        have hM2 : (M.length : Int) < 100 := by omega
        clear hin hi hbl hz hcz HI hr' hMl
        rcases hcase with ⟨rfl, rfl⟩ | ⟨rfl, h1, rfl⟩ | ⟨rfl, h1, h2, rfl⟩ | ⟨rfl, h1, h2, rfl⟩
        all_goals
          go_wp2_with fail
          refine HPUT.out.mono ?_
          rintro e w8 ⟨v8, rfl, hp8⟩
          obtain ⟨M8, hg8⟩ := HBU.out _ _ hp8
          have HG8 := hid hg8
          clear HPUT HBU hp8 hg8
          go_wp2
          go_roundw
          case rel => exact ⟨i + 1, _, M8, _, HI1.out, rfl, rfl, by go_num, HG8⟩
          case measure => have := HMS.out; simp [intOf]; omega
      · have HG8 : Hid (Gath w wr id zs (i + 1) r' M (.slice A5 M.length c5)) := by rw [hr']; exact HI.out.full HZ.out hM
        have hM2 : ¬ (M.length : Int) < 100 := by omega
        clear hin hi hbl hz hcz HI hr' hMl
        rcases hcase with ⟨rfl, rfl⟩ | ⟨rfl, h1, rfl⟩ | ⟨rfl, h1, h2, rfl⟩ | ⟨rfl, h1, h2, rfl⟩
        all_goals
          go_wp2
          go_roundw
          case rel => exact ⟨i + 1, _, M, _, HI1.out, rfl, rfl, by go_num, HG8⟩
          case measure => have := HMS.out; simp [intOf]; omega
    · have hii : ¬ (i : Int) < (n : Int) := by omega
      cases r with
      | false =>
        have FIN : Hid (¬ (okId id ∧ ∀ z ∈ zs, okId z) ∧ Below w.heap.size w wr) := ⟨HI.out.none (by have := HLN.out; omega), HI.out.bel⟩
        clear hin hi HI hMl HS
        go_wp2
        go_ret2
        exact .range FIN.out.1 rfl FIN.out.2
      | true =>
        obtain ⟨hok, eM⟩ := HI.out.all (by have := HLN.out; omega)
        subst eM
        obtain ⟨y, rfl⟩ : ∃ y : Nat, id = (y : Int) := ⟨id.toNat, by have := hok.1.1; omega⟩
        obtain ⟨D, hD⟩ : ∃ D, D = dd zs := ⟨_, rfl⟩
        have HDD := hid hD
        have HOKZ := hid hok
        have hyr : 1 ≤ y ∧ y ≤ 100 := by have := hok.1.1; have := hok.1.2; omega
        have HYR := hid hyr
        have hDs : D.Pairwise (· < ·) := by rw [hD]; exact pick_sorted _
        have hDr : ∀ p ∈ D, 1 ≤ p ∧ p ≤ 100 := by rw [hD]; exact dd_ok hok.2
        have HROW := HI.out.row
        rw [← hD] at HROW hMl hMb
        have hDl : (toZ D).length = D.length := by simp
        rw [hDl] at HROW hMl hMb
        rw [← hD, hDl]
        have HROW := hid HROW
        have HDS := hid hDs
        have HDR := hid hDr
        have HB := hid HI.out.bel
        have HML := hid hMl
        have HF := hid (find_g (HV.out.below HI.out.bel) (by have := HM.out; omega) (y : Int))
        clear hin hi HI HS HE1 hD hDl hok hyr hDs hDr hMl
        go_wp2_with fail
        refine HF.out.mono ?_
        rintro e w2 ⟨⟨k, rfl, hk⟩, hb2⟩
        have HB2 := hid (HB.out.trans (hb2.mono HB.out.size))
        have HROW2 := hid (rowN_kept HROW.out fun k hk => hb2.block k (HROW.out.lt k hk).2)
        clear hb2 HF HB HROW
        rcases hk with ⟨q, z, rfl, hqz, ez⟩ | ⟨rfl, hno⟩
        case inl =>
          have ez2 : z = y := by omega
          subst ez2
          have FIN : Hid (G.st z ≠ 0) := (HJ.out z).1 (List.mem_of_getElem? hqz)
          have hqq : (0 : Int) ≤ (q : Int) := by omega
          clear hqz ez
          go_wp2
          go_ret2
          exact .twice HOKZ.out FIN.out rfl HB2.out
        case inr =>
        have HNO : Hid (y ∉ J) := fun q => hno y q rfl
        have HST : Hid (G.st y = 0) := by
          by_cases q : G.st y = 0
          · exact q
          · exact absurd ((HJ.out y).2 q) HNO.out
        clear hno
        have HAB := hid (above_g (c := c5) (HV.out.below HB2.out) HN.out (by have := HM.out; omega) HOK.out HJ.out (slz_row HROW2.out) (nodup_of_lt HDS.out) HDR.out)
        go_wp2_with fail
        refine HAB.out.mono ?_
        rintro e w3 ⟨v3, rfl, out, hrow3, hol, hom, hb3⟩
        clear HAB
        obtain ⟨A6, c6, rfl⟩ := row_shape hrow3
        have HIN := hid (in_any (cap := c6) (y : Int) (slz_row hrow3) (by omega))
        have HB3 := hid (HB2.out.trans (hb3.mono HB2.out.size))
        have HROW3 := hid (rowN_kept HROW2.out fun k hk => hb3.block k (HROW2.out.lt k hk).2)
        have HOM := hid hom
        have hob : (out.length : Int) ≤ 100 := by omega
        clear hrow3 hom hb3 HROW2 HB2 hol
        by_cases hcy : y ∈ out
        · rw [decide_eq_true (memZ.2 hcy)] at HIN
          have FIN : Hid (∃ p ∈ dd zs, p = y ∨ G.Rch y p) := by
            rw [← HDD.out]
            rcases (HOM.out y).1 hcy with q | ⟨p, hp, q⟩
            · exact ⟨y, q, .inl rfl⟩
            · exact ⟨p, hp, .inr q⟩
          clear hcy
          go_wp2_with fail
          refine HIN.out.mono ?_
          rintro e w4 ⟨rfl, rfl⟩
          go_wp2
          go_ret2
          exact .cycle HOKZ.out HST.out FIN.out rfl HB3.out
        · rw [decide_eq_false (fun q => hcy (memZ.1 q))] at HIN
          have HCY : Hid (∀ p ∈ D, p ≠ y ∧ ¬ G.Rch y p) := fun p hp => ⟨fun e => hcy ((HOM.out y).2 (.inl (e ▸ hp))), fun q => hcy ((HOM.out y).2 (.inr ⟨p, hp, q⟩))⟩
          clear hcy HOM
          go_wp2_with fail
          refine HIN.out.mono ?_
          rintro e w4 ⟨rfl, rfl⟩
          clear HIN
          have HL2 : Hid (w3.ownsRow w.heap.size 2 1 (.slice A5 D.length c5) D.length (rowD D) ∧ (∀ p ∈ D.take 0, G.st p ≠ 3) ∧ Below w.heap.size w w3) := ⟨HROW3.out, fun p hp => (by rw [List.take_zero] at hp; cases hp), HB3.out⟩
          clear HROW3 HB3
          go_wp2_with fail
          go_loopw [11] (fun iv wr => ∃ i : Nat, i ≤ D.length ∧ iv = .int .i64 i ∧ Hid (wr.ownsRow w.heap.size 2 1 (.slice A5 D.length c5) D.length (rowD D) ∧ (∀ p ∈ D.take i, G.st p ≠ 3) ∧ Below w.heap.size w wr)) (fun iv _ => D.length - (intOf iv).toNat)
          case atStart => exact ⟨0, Nat.zero_le _, rfl, HL2⟩
          case round =>
            clear HL2
            obtain ⟨i, hi, rfl, HI⟩ := hrel
            by_cases hin : i < D.length
            · have HI1 : Hid (i + 1 ≤ D.length) := hin
              have HMS : Hid (D.length - (i + 1) < D.length - i) := by unfold Hid; omega
              have hii : (i : Int) < (D.length : Int) := by omega
              have hib : (i : Int) ≤ 100 := by omega
              obtain ⟨g9, p, rfl, hg9, cp, hmp, hpp⟩ := row_elem HI.out.1 hin
              have HPP := hid hpp
              have HMP := hid hmp
              have HF2 := hid (find_g (HV.out.below HI.out.2.2) (by have := HM.out; omega) (p : Int))
              clear hin hi hmp hpp
              go_wp2_with fail
              refine HF2.out.mono ?_
              rintro e w8 ⟨⟨k, rfl, hk⟩, hb8⟩
              have HI8 : Hid (w8.ownsRow w.heap.size 2 1 (.slice (some ⟨g9, 0, none⟩) D.length c5) D.length (rowD D) ∧ (∀ p ∈ D.take i, G.st p ≠ 3) ∧ Below w.heap.size w w8) := ⟨rowN_kept HI.out.1 fun k hk => hb8.block k (HI.out.1.lt k hk).2, HI.out.2.1, HI.out.2.2.trans (hb8.mono HI.out.2.2.size)⟩
              have more : G.st p ≠ 3 → Hid (w8.ownsRow w.heap.size 2 1 (.slice (some ⟨g9, 0, none⟩) D.length c5) D.length (rowD D) ∧ (∀ p ∈ D.take (i + 1), G.st p ≠ 3) ∧ Below w.heap.size w w8) := fun h3 => ⟨HI8.out.1, fun r hr => by
                rw [take_next HPP.out, List.mem_append, List.mem_singleton] at hr
                rcases hr with hr | rfl
                · exact HI8.out.2.1 r hr
                · exact h3, HI8.out.2.2⟩
              clear hb8 HF2 HI cp hg9
              rcases hk with ⟨q, z, rfl, hqz, ez⟩ | ⟨rfl, hno⟩
              case inr =>
                have HREL := more (by
                  have : G.st p = 0 := by
                    by_cases q : G.st p = 0
                    · exact q
                    · exact absurd rfl (hno p ((HJ.out p).2 q))
                  omega)
                clear more hno HI8
                go_wp2
                go_roundw
                case rel => exact ⟨i + 1, HI1.out, by go_num, HREL⟩
                case measure => have := HMS.out; simp [intOf]; omega
              case inl =>
                have e3 : z = p := by omega
                subst e3
                clear ez
                obtain ⟨g, rfl, -, hgH, hfa⟩ := HV.out.facts hqz
                obtain ⟨l1, l2, k0, hc⟩ := hfa w8 HI8.out.2.2
                obtain ⟨-, -, z2⟩ := hc q z hqz
                have hqq : (q : Int) < (J.length : Int) := by obtain ⟨_, _⟩ := getq hqz; omega
                have hJb : (J.length : Int) ≤ 100 := by have := HM.out; omega
                clear hc hfa hqz
                by_cases hs2 : G.st z = 3
                · have hst : ((G.st z : Nat) : Int) = 3 := by omega
                  rw [hst] at z2
                  have FIN : Hid (∃ p ∈ dd zs, G.st p = 3) := ⟨z, by rw [← HDD.out]; exact HMP.out, hs2⟩
                  clear hs2 hst more
                  go_wp2
                  go_ret2
                  exact .state HOKZ.out HST.out (by rw [← HDD.out]; exact HCY.out) FIN.out rfl HI8.out.2.2
                · have HREL := more hs2
                  have hne : (((G.st z : Nat) : Int) == 3) = false := by
                    simp only [beq_eq_false_iff_ne]; omega
                  clear more hs2
                  go_wp2
                  go_roundw
                  case rel => exact ⟨i + 1, HI1.out, by go_num, HREL⟩
                  case measure => have := HMS.out; simp [intOf]; omega
            · have hii : ¬ (i : Int) < (D.length : Int) := by omega
              have HFIT : Hid (G.Fit y D) := ⟨HYR.out, HST.out, HDS.out, HDR.out, HCY.out, fun p hp => HI.out.2.1 p (by rw [List.take_of_length_le (by omega)]; exact hp)⟩
              have HROWN := hid HI.out.1
              have HBN := hid HI.out.2.2
              clear hin hi HI HCY HLN hnb
              go_upto_region 22 with (fail)
              refine wp_name ?_
              intro w5 hw5
              have X5 : w5.heap[wr.heap.size]? = some (.cells #[.int .i64 (y : Nat), .slice A5 D.length c5, .int .i64 1] 65 (0, 0)) := by rw [hw5]; exact alloc_at wr _
              have B5' : Below wr.heap.size wr w5 := by rw [hw5]; exact (by repeat (first | with_reducible assumption | with_reducible exact Below.refl _ _ | with_reducible refine Below.drew ?_ | with_reducible refine below_drewN ?_ _ | with_reducible refine below_alloc ?_ _ | with_reducible refine Below.alloc ?_ (by first | omega | (simp; done) | (simp; omega)) _ | with_reducible refine Below.setCell ?_ (by first | omega | (simp; done) | (simp; omega)) _ | with_reducible refine below_setRow ?_ (by first | omega | (simp; done) | (simp; omega)) _))
              have B5 := hid (HBN.out.trans (B5'.mono HBN.out.size))
              obtain ⟨T, hT⟩ : ∃ T, T = wr.heap.size := ⟨_, rfl⟩
              have hTw : w.heap.size ≤ T := by rw [hT]; exact HBN.out.size
              have HTW := hid hTw
              rw [← hT] at X5 ⊢
              obtain ⟨S, hS⟩ : ∃ S, S = Value.slice A5 D.length c5 := ⟨_, rfl⟩
              have HS := hid hS
              obtain ⟨P', hP'⟩ : ∃ P', P' = upd P y S := ⟨_, rfl⟩
              obtain ⟨G', hG'⟩ : ∃ G', G' = G.add y D := ⟨_, rfl⟩
              have hPy : P' y = .slice A5 D.length c5 := by rw [hP', upd_same, hS]
              have hGy : ((G'.st y : Nat) : Int) = 1 := by rw [hG']; show ((upd G.st y 1 y : Nat) : Int) = 1; rw [upd_same]; rfl
              have hGp : G'.pa y = D := by rw [hG', add_pa, if_pos rfl]
              have h5 : RefJ B w5 H (.slice A0 J.length c0) P' G' J := (HV.out.below B5.out).cong fun x hx => by
                have hxy : x ≠ y := fun e => HNO.out (e ▸ hx)
                refine ⟨by rw [hP']; exact upd_ne _ _ hxy, ?_, ?_⟩
                · rw [hG']; exact upd_ne _ _ hxy
                · rw [hG', add_pa, if_neg hxy]
              have hrow5 : w5.ownsRow B 2 1 (P' y) (G'.pa y).length (rowD (G'.pa y)) := by
                rw [hPy, hGp]
                exact row_base (rowN_kept HROWN.out fun k hk => B5'.block k (HROWN.out.lt k hk).2) (by have := HV.out.le; omega)
              have HPG := hid (And.intro hP' hG')
              have HGE : Hid (∀ k, (P' y).ownBlock = some k → w.heap.size ≤ k) := fun k hk => by rw [hPy] at hk; exact (HROWN.out.lt k hk).1
              have HPY := hid hPy
              have HGY := hid hGy
              have H5 := hid h5
              clear hw5 hP' hG' hS hT B5' HROW HROWN HBN
              have t67 : Below w5.heap.size w5 (w5.alloc (.cells #[.int .i64 (y : Nat), .slice A5 D.length c5, .int .i64 1] 65)).drew := (by repeat (first | with_reducible assumption | with_reducible exact Below.refl _ _ | with_reducible refine Below.drew ?_ | with_reducible refine below_drewN ?_ _ | with_reducible refine below_alloc ?_ _ | with_reducible refine Below.alloc ?_ (by first | omega | (simp; done) | (simp; omega)) _ | with_reducible refine Below.setCell ?_ (by first | omega | (simp; done) | (simp; omega)) _ | with_reducible refine below_setRow ?_ (by first | omega | (simp; done) | (simp; omega)) _))
              obtain ⟨g, cap, w6, happ, H6, hR7, hT7, hGR, hgH⟩ := app_stepJ (c := 1) (y := y) (h5.below t67) ⟨w5.heap.size, 0, none⟩ (by rw [hPy, hGy]; exact World.news_of_block (heap_drew_at (alloc_at w5 _))) (rowN_kept hrow5 fun k hk => t67.block k (hrow5.lt k hk).2) (by have := HM.out; omega)
              have HAPP := hid happ
              have HR7 := hid hR7
              have HT7 : Hid (Tur (FootW H (.slice A0 J.length c0)) w (w6.setCell ⟨H, 0, none⟩ (.slice (some ⟨g, 0, none⟩) (J.length + 1) cap))) := ((Tur.of_below B5.out).then (Tur.of_below t67)).then hT7
              have HGR : Hid (∀ k, FootW H (.slice (some ⟨g, 0, none⟩) (J.length + 1) cap) k → FootW H (.slice A0 J.length c0) k ∨ w.heap.size ≤ k) := fun k hk => (hGR k hk).imp _root_.id (fun q => by have := t67.size; have := B5.out.size; omega)
              have HTG : Hid (g ≠ T) := fun e => by
                rcases hGR g (.inr rfl) with q | q
                · rcases q with q | q
                  · exact hgH q
                  · have := (HV.out.row.lt g q).2; omega
                · have := t67.size; have := lt_of_at X5; omega
              have hTF : ¬ FootW H (.slice A0 J.length c0) T := by
                rintro (q | q)
                · omega
                · have := (HV.out.row.lt T q).2; omega
              have HTF := hid hTF
              have HX7 : Hid ((w6.setCell ⟨H, 0, none⟩ (.slice (some ⟨g, 0, none⟩) (J.length + 1) cap)).heap[T]? = some (.cells #[.int .i64 (y : Nat), .slice A5 D.length c5, .int .i64 1] 65 (0, 0))) := by
                unfold Hid
                rw [hT7.kept T (Nat.lt_of_lt_of_le (lt_of_at X5) t67.size) hTF, t67.block T (lt_of_at X5)]
                exact X5
              have k0 : w5.cell? ⟨H, 0, none⟩ = some (.slice A0 J.length c0) := h5.head.1
              have kf := blk_free h5.blk
              have kl := h5.ltH
              have x0 : w5.cell? ⟨T, 0, none⟩ = some (.int .i64 (y : Nat)) := (blk_cell X5 0).trans rfl
              have x1 : w5.cell? ⟨T, 1, none⟩ = some (.slice A5 D.length c5) := (blk_cell X5 1).trans rfl
              have x2 : w5.cell? ⟨T, 2, none⟩ = some (.int .i64 1) := (blk_cell X5 2).trans rfl
              have xl := lt_of_at X5
              have d0 : w6.cell? ⟨H, 0, none⟩ = some (.slice A0 J.length c0) := (blk_cell H6 0).trans rfl
              have df := blk_free H6
              have dl := lt_of_at H6
              have hJb : (J.length : Int) ≤ 100 := by have := HM.out; omega
              clear h5 hrow5 happ hR7 hT7 hGR X5 H6 t67 hTF hPy hGy hGp
              go_cut [13] (fun s wx => s = .pointer (some ⟨T, 0, none⟩) ∧ (w6.setCell ⟨H, 0, none⟩ (.slice (some ⟨g, 0, none⟩) (J.length + 1) cap)) = wx)
              case first =>
                go_region_law (refine step_append_eq rfl (.tmp 94) (.tmp 96) 43 rfl (v := .slice A0 J.length c0) (y := .slice (some ⟨w5.heap.size, 0, none⟩) 1 1) (by simp [Act.eval]) (by simp [Act.eval]) HAPP.out ?_)
                all_goals
                  go_wp2_with fail
                  go_meet
                  exact ⟨rfl, rfl⟩
              case rest =>
                obtain ⟨rfl, hw7⟩ := hcut
                obtain ⟨w7, hw8⟩ : ∃ w7, w7 = wc := ⟨_, rfl⟩
                rw [← hw8] at hw7 ⊢
                rw [hw7] at HR7 HT7 HX7
                clear x0 x1 x2 d0 df dl k0 kf kl xl HAPP hw7 hw8 H5
                have HL3 : Hid (RefJ B w7 H (.slice (some ⟨g, 0, none⟩) (J.length + 1) cap) P' G' (gapN J J.length y) ∧ (P' y = .slice A5 D.length c5 ∧ w7.ownsRow B 2 1 (P' y) (G'.pa y).length (rowD (G'.pa y))) ∧ (∀ z ∈ J.drop J.length, y < z) ∧ Tur (FootW H (.slice A0 J.length c0)) w w7 ∧ w7.heap[T]? = some (.cells #[.int .i64 (y : Nat), .slice A5 D.length c5, .int .i64 1] 65 (0, 0))) := by
                  have h7 := HR7.out
                  rw [show (J ++ [y]).length = J.length + 1 by simp] at h7
                  refine ⟨by rw [gapN_all]; exact h7, ⟨HPY.out, h7.par y (by simp)⟩, fun z hz => ?_, HT7.out, HX7.out⟩
                  rw [List.drop_length] at hz; cases hz
                have q7 : w7.cell? ⟨H, 0, none⟩ = some (.slice (some ⟨g, 0, none⟩) (J.length + 1) cap) := by
                  have := HR7.out.head.1
                  rw [show (J ++ [y]).length = J.length + 1 by simp] at this
                  exact this
                have ql : H < w7.heap.size := HR7.out.ltH
                clear HR7 HT7 HX7
                go_wp2_with fail
                go_loopw [14] (fun iv wr => ∃ k u : Nat, k ≤ J.length ∧ iv = .int .i64 k ∧ Hid (RefJ B wr H (.slice (some ⟨g, 0, none⟩) (J.length + 1) cap) P' G' (gapN J k u) ∧ (P' y = .slice A5 D.length c5 ∧ wr.ownsRow B 2 1 (P' y) (G'.pa y).length (rowD (G'.pa y))) ∧ (∀ z ∈ J.drop k, y < z) ∧ Tur (FootW H (.slice A0 J.length c0)) w wr ∧ wr.heap[T]? = some (.cells #[.int .i64 (y : Nat), .slice A5 D.length c5, .int .i64 1] 65 (0, 0)))) (fun iv _ => (intOf iv).toNat)
                case atStart => exact ⟨J.length, y, Nat.le_refl _, by go_num, HL3⟩
                case round =>
                  clear HL3 q7 ql
                  obtain ⟨k, u, hk, rfl, HK⟩ := hrel
                  have HKJ := hid hk
                  have hlen : (gapN J k u).length = J.length + 1 := gapN_len hk
                  obtain ⟨g', c', e, -, hgl, gf, hc⟩ := HK.out.1.open_ (by omega)
                  rw [hlen] at e
                  injection e with e1 e2 e3
                  injection e1 with e1
                  injection e1 with e1
                  subst e1 e3
                  obtain ⟨m0, mf, -⟩ := HK.out.1.head
                  have ml := HK.out.1.ltH
                  obtain ⟨t0, t1, t2⟩ := hc k u (gapN_at hk)
                  have HX := HK.out.2.2.2.2
                  have x0 : wr.cell? ⟨T, 0, none⟩ = some (.int .i64 (y : Nat)) := (blk_cell HX 0).trans rfl
                  have x1 : wr.cell? ⟨T, 1, none⟩ = some (.slice A5 D.length c5) := (blk_cell HX 1).trans rfl
                  have x2 : wr.cell? ⟨T, 2, none⟩ = some (.int .i64 1) := (blk_cell HX 2).trans rfl
                  have xl := lt_of_at HX
                  have hkb : (k : Int) ≤ (J.length : Int) := by omega
                  have FIN : (k = 0 ∨ ∃ z, J[k - 1]? = some z ∧ z < y) → Hid (RefJ B (((wr.setCell ⟨g, k * 3, none⟩ (.int .i64 (y : Nat))).setCell ⟨g, k * 3 + 1, none⟩ (.slice A5 D.length c5)).setCell ⟨g, k * 3 + 2, none⟩ (.int .i64 1)).drew H (.slice (some ⟨g, 0, none⟩) (J.length + 1) cap) P' G' (gapN J k y) ∧ (gapN J k y).Pairwise (· < ·) ∧ Tur (FootW H (.slice A0 J.length c0)) w (((wr.setCell ⟨g, k * 3, none⟩ (.int .i64 (y : Nat))).setCell ⟨g, k * 3 + 1, none⟩ (.slice A5 D.length c5)).setCell ⟨g, k * 3 + 2, none⟩ (.int .i64 1)).drew) := fun hlo => by
                    have hsj := RefJ.setj (J := gapN J k u) (i := k) (x := y) (g := g) (cap := cap) (by rw [hlen]; exact HK.out.1) (by omega) HK.out.2.1.2
                    rw [HPY.out, HGY.out, gapN_set HKJ.out, gapN_len HKJ.out, hlen] at hsj
                    refine ⟨hsj.1.below (by repeat (first | with_reducible assumption | with_reducible exact Below.refl _ _ | with_reducible refine Below.drew ?_ | with_reducible refine below_drewN ?_ _ | with_reducible refine below_alloc ?_ _ | with_reducible refine Below.alloc ?_ (by first | omega | (simp; done) | (simp; omega)) _ | with_reducible refine Below.setCell ?_ (by first | omega | (simp; done) | (simp; omega)) _ | with_reducible refine below_setRow ?_ (by first | omega | (simp; done) | (simp; omega)) _)), gapN_rise HRISE.out HKJ.out hlo HK.out.2.2.1, ?_⟩
                    have t := hsj.2.then (Tur.drew_ _ _)
                    exact HK.out.2.2.2.1.trans t HGR.out
                  have STEP : ∀ k' z, k = k' + 1 → J[k']? = some z → y < z → Hid (RefJ B (((wr.setCell ⟨g, k * 3, none⟩ (.int .i64 (z : Nat))).setCell ⟨g, k * 3 + 1, none⟩ (P' z)).setCell ⟨g, k * 3 + 2, none⟩ (.int .i64 (G'.st z : Nat))).drew H (.slice (some ⟨g, 0, none⟩) (J.length + 1) cap) P' G' (gapN J k' z) ∧ (P' y = .slice A5 D.length c5 ∧ (((wr.setCell ⟨g, k * 3, none⟩ (.int .i64 (z : Nat))).setCell ⟨g, k * 3 + 1, none⟩ (P' z)).setCell ⟨g, k * 3 + 2, none⟩ (.int .i64 (G'.st z : Nat))).drew.ownsRow B 2 1 (P' y) (G'.pa y).length (rowD (G'.pa y))) ∧ (∀ z ∈ J.drop k', y < z) ∧ Tur (FootW H (.slice A0 J.length c0)) w (((wr.setCell ⟨g, k * 3, none⟩ (.int .i64 (z : Nat))).setCell ⟨g, k * 3 + 1, none⟩ (P' z)).setCell ⟨g, k * 3 + 2, none⟩ (.int .i64 (G'.st z : Nat))).drew ∧ (((wr.setCell ⟨g, k * 3, none⟩ (.int .i64 (z : Nat))).setCell ⟨g, k * 3 + 1, none⟩ (P' z)).setCell ⟨g, k * 3 + 2, none⟩ (.int .i64 (G'.st z : Nat))).drew.heap[T]? = some (.cells #[.int .i64 (y : Nat), .slice A5 D.length c5, .int .i64 1] 65 (0, 0))) := fun k' z ek hz hyz => by
                    have hzm : z ∈ gapN J k u := gapN_mem.2 (.inl (List.mem_of_getElem? hz))
                    have hsj := RefJ.setj (J := gapN J k u) (i := k) (x := z) (g := g) (cap := cap) (by rw [hlen]; exact HK.out.1) (by omega) (HK.out.1.par z hzm)
                    rw [gapN_set HKJ.out, gapN_len HKJ.out, hlen] at hsj
                    have t := hsj.2.then (Tur.drew_ _ _)
                    rw [show gapN J k z = gapN J k' z by rw [ek]; exact gapN_next hz] at hsj
                    have tt := HK.out.2.2.2.1.trans t HGR.out
                    refine ⟨hsj.1.below (by repeat (first | with_reducible assumption | with_reducible exact Below.refl _ _ | with_reducible refine Below.drew ?_ | with_reducible refine below_drewN ?_ _ | with_reducible refine below_alloc ?_ _ | with_reducible refine Below.alloc ?_ (by first | omega | (simp; done) | (simp; omega)) _ | with_reducible refine Below.setCell ?_ (by first | omega | (simp; done) | (simp; omega)) _ | with_reducible refine below_setRow ?_ (by first | omega | (simp; done) | (simp; omega)) _)), ⟨HPY.out, ?_⟩, fun x hx => ?_, tt, ?_⟩
                    · have := RefJ.parKept (by exact HK.out.1) t HK.out.2.1.2
                      exact this
                    · obtain ⟨hk1, hk2⟩ := getq hz
                      rw [List.drop_eq_getElem_cons hk1, List.mem_cons] at hx
                      rcases hx with rfl | hx
                      · rw [hk2]; exact hyz
                      · exact HK.out.2.2.1 x (by rw [ek]; exact hx)
                    · have hTn : ¬ FootW H (.slice (some ⟨g, 0, none⟩) (J.length + 1) cap) T := fun q => by
                        rcases HGR.out T q with q2 | q2
                        · exact HTF.out q2
                        · rcases q with q | q
                          · have := HV.out.ltH; have := HTW.out; omega
                          · obtain ⟨_, _, q3⟩ := own_type HK.out.1.row q
                            have hTg : g = T := by injection q
                            exact HTG.out hTg
                      rw [t.kept T xl hTn]
                      exact HX
                  have LAST : (gapN J k y).Pairwise (· < ·) → ∀ W, RefJ B W H (.slice (some ⟨g, 0, none⟩) (J.length + 1) cap) P' G' (gapN J k y) → Tur (FootW H (.slice A0 J.length c0)) w W → Calls Try.prog 19 #[.pointer (some ⟨H, 0, none⟩), .int .i64 y] W fun e w' => e = .returned (.bool (decide (G.cntN D = 0))) ∧ AddR B H w (.slice A0 J.length c0) P G J (y : Int) zs (.returned (.tuple #[.bool (decide (G.cntN D = 0)), .int .i64 0])) w' := fun hri W hW ht => by
                    have okA := HOK.out.add HFIT.out
                    have hmm : ∀ x, x ∈ gapN J k y ↔ x ∈ J ∨ x = y := fun x => gapN_mem
                    refine (rfree_g hW (nodup_of_lt hri) (by rw [gapN_len HKJ.out]; have := HM.out; omega) (fun x hx => by rw [HPG.out.2]; have := okA.pal x; omega) (y : Int)).mono ?_
                    rintro e w9 ⟨rfl, hb9⟩
                    rw [HPG.out.2, frR_add HOK.out HJ.out HFIT.out hmm]
                    refine ⟨rfl, .ok HOKZ.out (by rw [← HDD.out]; exact HFIT.out) (by rw [← HDD.out]) ⟨_, P', gapN J k y, by rw [← HDD.out]; have := hW.below hb9; rw [HPG.out.2] at this; exact this, hri, fun x => ?_, HGR.out, fun x hx => ?_⟩ (ht.then (Tur.of_below hb9))⟩
                    · rw [hmm, HJ.out, ← HDD.out]
                      show _ ↔ upd G.st y 1 x ≠ 0
                      by_cases e : x = y
                      · subst e; rw [upd_same]; simp
                      · rw [upd_ne _ _ e]; simp [e]
                    · rcases (hmm x).1 hx with q | q
                      · exact .inl ⟨q, by rw [HPG.out.1]; exact upd_ne _ _ (fun e => HNO.out (e ▸ q))⟩
                      · subst q; exact .inr HGE.out
                  have HKO := HK.out
                  by_cases hk0 : k = 0
                  · have F := FIN (.inl hk0)
                    have L := hid (LAST F.out.2.1 _ F.out.1 F.out.2.2)
                    have hkn : ¬ (0 : Int) < (k : Int) := by omega
                    clear hc hk hk0 FIN STEP LAST F HKO HK hlen
                    go_upto_region 27 with (fail)
                    go_region
                    go_wp2_with fail
                    refine L.out.mono ?_
                    rintro e w9 ⟨rfl, hw9⟩
                    have HW9 := hid hw9
                    clear L hw9
                    go_wp2
                    go_ret2
                    exact HW9.out
                  · obtain ⟨k', hk'⟩ : ∃ k', k = k' + 1 := ⟨k - 1, by omega⟩
                    have hkl : k' < J.length := by have := HKJ.out; omega
                    obtain ⟨z, hz⟩ : ∃ z, J[k']? = some z := ⟨_, List.getElem?_eq_getElem hkl⟩
                    have hzg : (gapN J k u)[k']? = some z := by rw [gapN_lo HKJ.out (by omega)]; exact hz
                    obtain ⟨z0, z1, z2⟩ := hc k' z hzg
                    have hzy : z ≠ y := fun e => HNO.out (e ▸ List.mem_of_getElem? hz)
                    have hkp : (0 : Int) < ((k' + 1 : Nat) : Int) := by omega
                    have hka : ((k' + 1 : Nat) : Int) = (k' : Int) + 1 := by omega
                    by_cases hyz : y < z
                    · have S1 := STEP k' z hk' hz hyz
                      have hyi : (y : Int) < (z : Int) := by omega
                      obtain ⟨Az, cz, hpz⟩ := row_shape (HK.out.1.par z (gapN_mem.2 (.inl (List.mem_of_getElem? hz))))
                      obtain ⟨nz, hnz⟩ : ∃ nz, nz = (G'.pa z).length := ⟨_, rfl⟩
                      rw [← hnz] at hpz
                      obtain ⟨sz, hsz⟩ : ∃ sz : Int, sz = ((G'.st z : Nat) : Int) := ⟨_, rfl⟩
                      rw [hpz, ← hsz] at S1
                      rw [hpz] at z1
                      rw [← hsz] at z2
                      clear hc hk hk0 FIN STEP LAST HKO HK hlen hz hzg hyz hzy hpz hsz hnz
                      subst hk'
                      go_upto_region 25 with (fail)
                      go_region
                      go_wp2_with fail
                      go_roundw
                      case rel => exact ⟨k', z, by omega, by go_num, S1⟩
                      case measure => simp [intOf]
                    · have F := FIN (.inr ⟨z, by rw [hk']; exact hz, by omega⟩)
                      have L := hid (LAST F.out.2.1 _ F.out.1 F.out.2.2)
                      have hyi : ¬ (y : Int) < (z : Int) := by omega
                      clear hc hk hk0 FIN STEP LAST F HKO HK hlen hz hzg hyz hzy
                      subst hk'
                      go_upto_region 27 with (fail)
                      go_region
                      go_wp2_with fail
                      refine L.out.mono ?_
                      rintro e w9 ⟨rfl, hw9⟩
                      have HW9 := hid hw9
                      clear L hw9
                      go_wp2
                      go_ret2
                      exact HW9.out
end Go.Proofs.Ytolfioiccmmifaa
