/- DagCycles' walk. -/
import Derived.Test.YtolfioiccmmifaaDyA
import Derived.Test.YtolfioiccmmifaaDyB
namespace Go.Proofs.Ytolfioiccmmifaa
open Go.RowKit
/-- The loop's relation: the graph behind i jobs, as long as the ring isn't closed. -/
def CycS (b : Nat) (wr : World) (H K : Nat) (f : Nat → Nat) (i : Nat) : Prop := i < K → ∃ R G, GrV b wr H R G ∧ Cyc K f i G
theorem CycS.below {b H K i : Nat} {f : Nat → Nat} {wr w' : World} (h : CycS b wr H K f i) (hb : Below wr.heap.size wr w') : CycS b w' H K f i := fun hi => by
  obtain ⟨R, G, h1, h2⟩ := h hi
  exact ⟨R, G, h1.below hb, h2⟩
/-- The call in the round. -/
theorem CycS.call {b H K i bl c : Nat} {f : Nat → Nat} {wr : World} {T : TypeId} (h : CycS b wr H K f i) (o : Ord K f) (hi : i < K) (hb : b ≤ wr.heap.size) (hl : wr.heap[bl]? = some (.cells #[.int .i64 (((f i + 1) % K + 1 : Nat) : Int)] T (0, 0))) :
    ∃ (ok : Bool) (e : Int), ((e = 8 ∧ i + 1 = K) ∨ (e = 0 ∧ i + 1 < K)) ∧ Calls Try.prog 11 #[.pointer (some ⟨H, 0, none⟩), .int .i64 ((f i + 1 : Nat) : Int), .slice (some ⟨bl, 0, none⟩) 1 c] wr fun x w' => x = .returned (.tuple #[.bool ok, .int .i64 e]) ∧ Below b wr w' ∧ CycS b w' H K f (i + 1) := by
  obtain ⟨R, G, h1, h2⟩ := h hi
  have hk := o.hk
  have hq : (f i + 1) % K < K := Nat.mod_lt _ (by omega)
  have hfi := o.lt i hi
  have hz : ∀ z ∈ [((((f i + 1) % K + 1 : Nat)) : Int)], okId z := fun z hz => by
    rw [List.mem_singleton] at hz
    subst hz
    exact ⟨by omega, by omega⟩
  have hdd := dd_one (x := (f i + 1) % K + 1) (by omega)
  by_cases hl1 : i + 1 = K
  · refine ⟨false, 8, .inl ⟨rfl, hl1⟩, (add_ring h1 h2.ok (id := f i + 1) (slz_one hl) (by omega) ⟨by omega, by omega⟩ hz (h2.new o hi) ?_).mono ?_⟩
    · rw [hdd]
      exact ⟨_, List.mem_singleton.2 rfl, h2.last o hl1⟩
    · rintro x w' ⟨rfl, b1⟩
      exact ⟨rfl, b1.mono hb, fun q => by omega⟩
  · have hF := h2.fit o (by omega)
    refine ⟨decide (G.cntN (dd [((((f i + 1) % K + 1 : Nat)) : Int)]) = 0), 0, .inr ⟨rfl, by omega⟩, (add_fit h1 h2.ok (id := f i + 1) (slz_one hl) (by omega) hz (by rw [hdd]; exact hF)).mono ?_⟩
    rintro x w' ⟨rfl, ⟨R', h3, -⟩, t⟩
    rw [hdd] at h3
    exact ⟨rfl, h1.belowB t (Nat.le_refl _), fun _ => ⟨R', _, h3, h2.next o (by omega)⟩⟩
set_option maxRecDepth 100000 in
set_option maxHeartbeats 8000000 in
theorem dagCycles_any (n t : Int) (w : World) (hn : 0 ≤ n ∧ n ≤ 255) (ht : 0 ≤ t ∧ t ≤ 255) :
    Calls Try.prog 3 #[.int .u8 n, .int .u8 t] w fun e w' => e = .returned (.bool true) ∧ Below w.heap.size w w' := by
  obtain ⟨K, hK⟩ : ∃ K : Nat, (K : Int) = 1 + n.tmod 60 := ⟨(1 + n.tmod 60).toNat, by rw [Int.tmod_eq_emod_of_nonneg hn.1]; omega⟩
  have hK2 : 1 ≤ K ∧ K ≤ 60 := by rw [Int.tmod_eq_emod_of_nonneg hn.1] at hK; omega
  obtain ⟨T, rfl⟩ : ∃ T : Nat, t = (T : Int) := ⟨t.toNat, by omega⟩
  have hm0 : n.tmod 60 = (K : Int) - 1 := by omega
  have hm1 : IntKind.u8.wrap ((K : Int) - 1) = (K : Int) - 1 := IntWalk.u8_in _ (by omega)
  have hKb : (K : Int) ≤ 60 := by omega
  have hK1 : (1 : Int) ≤ (K : Int) := by omega
  have hKz : ¬ (K : Int) = 0 := by omega
  have HK := hid hK2
  have HO := hid (ordF_ord (t := T) hK2)
  have hTb : (T : Int) ≤ 255 := by omega
  clear hn ht hK hK2
  go_enter Try.func3, Try.ntmps3
  go_wp2_with fail
  refine (awake_g w).mono ?_
  rintro e w1 ⟨rfl, hb1⟩
  have B1 := hid hb1
  clear hb1
  go_wp2_with fail
  refine (new_g w.heap.size w1 B1.out.size).mono ?_
  rintro e w2 ⟨rfl, hb2, hG2⟩
  have B2 := hid (B1.out.trans (hb2.mono B1.out.size))
  have HS2 : Hid (CycS w.heap.size w2 w1.heap.size K (ordF K T) 0) := fun _ => ⟨_, _, hG2, Cyc.start _ _⟩
  obtain ⟨H, hH⟩ : ∃ H, H = w1.heap.size := ⟨_, rfl⟩
  rw [← hH] at HS2 ⊢
  clear hb2 hG2 hH B1 w1
  rw [show (1 : Int) + ((K : Int) - 1) = (K : Int) by omega]
  clear hm0 hm1
  go_wp2_with fail
  go_loopw [7] (fun iv wr => ∃ i : Nat, i ≤ K ∧ iv = .int .i64 i ∧ Hid (CycS w.heap.size wr H K (ordF K T) i) ∧ Hid (Below w.heap.size w wr)) (fun iv _ => K - (intOf iv).toNat)
  case atStart => exact ⟨0, Nat.zero_le _, rfl, HS2, B2⟩
  case round =>
    clear HS2 B2
    obtain ⟨i, hi, rfl, HC, HB⟩ := hrel
    by_cases hin : i < K
    · have HK1 : Hid (i + 1 ≤ K) := hin
      have HMS : Hid (K - (i + 1) < K - i) := by unfold Hid; omega
      have hii : (i : Int) < (K : Int) := by omega
      have hib : (i : Int) ≤ 60 := by omega
      have HIN : Hid (i < K) := hin
      obtain ⟨a, ha⟩ : ∃ a, a = ordF K T i := ⟨_, rfl⟩
      have hak : a < K := by rw [ha]; exact HO.out.lt i hin
      have hai : (a : Int) ≤ 60 := by omega
      have n1 : IntKind.i64.wrap ((i : Int) * 7) = (i : Int) * 7 := IntWalk.i64_in _ (by omega)
      have n2 : IntKind.i64.wrap ((i : Int) * 7 + (T : Int)) = (i : Int) * 7 + (T : Int) := IntWalk.i64_in _ (by omega)
      obtain ⟨m1, hm1⟩ : ∃ m1 : Nat, m1 = (i * 7 + T) % K := ⟨_, rfl⟩
      have e1 : ((i : Int) * 7 + (T : Int)).tmod (K : Int) = (m1 : Int) := by
        rw [Int.tmod_eq_emod_of_nonneg (by omega), hm1, Int.natCast_emod]
        congr 1
      have hm1b : m1 < K := by rw [hm1]; exact Nat.mod_lt _ (by omega)
      have e1' : IntKind.i64.wrap ((m1 : Int)) = (m1 : Int) := IntWalk.i64_in _ (by omega)
      obtain ⟨m2, hm2⟩ : ∃ m2 : Nat, m2 = (i + T) % K := ⟨_, rfl⟩
      have e2 : ((i : Int) + (T : Int)).tmod (K : Int) = (m2 : Int) := by
        rw [Int.tmod_eq_emod_of_nonneg (by omega), hm2, Int.natCast_emod]
        congr 1
      have hm2b : m2 < K := by rw [hm2]; exact Nat.mod_lt _ (by omega)
      have e2' : IntKind.i64.wrap ((m2 : Int)) = (m2 : Int) := IntWalk.i64_in _ (by omega)
      obtain ⟨m3, hm3⟩ : ∃ m3 : Nat, m3 = (a + 1) % K := ⟨_, rfl⟩
      have hm3b : m3 < K := by rw [hm3]; exact Nat.mod_lt _ (by omega)
      have e3 : ((a : Int) + 1).tmod (K : Int) = (m3 : Int) := by
        rw [Int.tmod_eq_emod_of_nonneg (by omega), hm3, Int.natCast_emod]
        congr 1
      have e3' : IntKind.i64.wrap ((m3 : Int)) = (m3 : Int) := IntWalk.i64_in _ (by omega)
      obtain ⟨m4, hm4⟩ : ∃ m4 : Nat, m4 = K % 7 := ⟨_, rfl⟩
      have e4 : ((K : Int)).tmod 7 = (m4 : Int) := by
        rw [Int.tmod_eq_emod_of_nonneg (by omega), hm4]
        omega
      have hm4b : m4 < 7 := by rw [hm4]; exact Nat.mod_lt _ (by omega)
      have e4' : IntKind.i64.wrap ((m4 : Int)) = (m4 : Int) := IntWalk.i64_in _ (by omega)
      have HA : Hid (a = if m4 = 0 then m2 else m1) := by
        unfold Hid
        rw [ha, hm4, hm2, hm1]; rfl
      have HM3 := hid hm3
      have HAF := hid ha
      clear hin hi ha hm1 hm2 hm3 hm4
      by_cases h7 : m4 = 0
      · have eA : m2 = a := by rw [HA.out, if_pos h7]
        subst eA
        subst h7
        replace e4 : ((K : Int)).tmod 7 = 0 := e4
        clear e4'
        have HCA := (HC.out.below (w' := wr.alloc (.cells #[.int .i64 (1 + (m3 : Int))] 2)) (by repeat (first | with_reducible assumption | with_reducible exact Below.refl _ _ | with_reducible refine Below.drew ?_ | with_reducible refine below_drewN ?_ _ | with_reducible refine below_alloc ?_ _ | with_reducible refine Below.alloc ?_ (by first | omega | (simp; done) | (simp; omega)) _ | with_reducible refine Below.setCell ?_ (by first | omega | (simp; done) | (simp; omega)) _ | with_reducible refine below_setRow ?_ (by first | omega | (simp; done) | (simp; omega)) _))).call (T := 2) (bl := wr.heap.size) (c := 1) HO.out HIN.out (by have := HB.out.size; simp; omega) (by
          have := alloc_at wr (.cells #[.int .i64 (1 + (m3 : Int))] 2)
          rw [show (((ordF K T i + 1) % K + 1 : Nat) : Int) = 1 + (m3 : Int) by rw [HM3.out, HAF.out]; omega]
          exact this)
        obtain ⟨okb, ee, hee, hcall⟩ := HCA
        rw [show ((ordF K T i + 1 : Nat) : Int) = 1 + (m2 : Int) by rw [HAF.out]; omega] at hcall
        have HCALL := hid hcall
        have HEE := hid hee
        have hws : Hid (w.heap.size ≤ wr.heap.size) := HB.out.size
        clear hcall hee HC HA HAF HM3
        go_wp2_with fail
        refine HCALL.out.mono ?_
        rintro e w5 ⟨rfl, hb5, hc5⟩
        have HB5 := hid ((Below.alloc HB.out hws.out _).trans hb5)
        have HC5 := hid hc5
        clear hb5 hc5 HCALL HB n1 n2 e1 e1' e2 e2' e3 e3'
        rcases HEE.out with ⟨rfl, hl⟩ | ⟨rfl, hl⟩
        · have q1 : ((i : Int) == (K : Int) - 1) = true := by simp; omega
          clear HEE hl
          go_wp2
          go_roundw
          case rel => exact ⟨i + 1, HK1.out, by go_num, HC5, HB5⟩
          case measure => have := HMS.out; simp [intOf]; omega
        · have q1 : ((i : Int) == (K : Int) - 1) = false := by simp; omega
          clear HEE hl
          go_wp2
          go_roundw
          case rel => exact ⟨i + 1, HK1.out, by go_num, HC5, HB5⟩
          case measure => have := HMS.out; simp [intOf]; omega
      · have eA : m1 = a := by rw [HA.out, if_neg h7]
        subst eA
        have h7' : ((m4 : Int) == 0) = false := by simp; omega
        clear h7
        have HCA := (HC.out.below (w' := wr.alloc (.cells #[.int .i64 (1 + (m3 : Int))] 2)) (by repeat (first | with_reducible assumption | with_reducible exact Below.refl _ _ | with_reducible refine Below.drew ?_ | with_reducible refine below_drewN ?_ _ | with_reducible refine below_alloc ?_ _ | with_reducible refine Below.alloc ?_ (by first | omega | (simp; done) | (simp; omega)) _ | with_reducible refine Below.setCell ?_ (by first | omega | (simp; done) | (simp; omega)) _ | with_reducible refine below_setRow ?_ (by first | omega | (simp; done) | (simp; omega)) _))).call (T := 2) (bl := wr.heap.size) (c := 1) HO.out HIN.out (by have := HB.out.size; simp; omega) (by
          have := alloc_at wr (.cells #[.int .i64 (1 + (m3 : Int))] 2)
          rw [show (((ordF K T i + 1) % K + 1 : Nat) : Int) = 1 + (m3 : Int) by rw [HM3.out, HAF.out]; omega]
          exact this)
        obtain ⟨okb, ee, hee, hcall⟩ := HCA
        rw [show ((ordF K T i + 1 : Nat) : Int) = 1 + (m1 : Int) by rw [HAF.out]; omega] at hcall
        have HCALL := hid hcall
        have HEE := hid hee
        have hws : Hid (w.heap.size ≤ wr.heap.size) := HB.out.size
        clear hcall hee HC HA HAF HM3
        go_wp2_with fail
        refine HCALL.out.mono ?_
        rintro e w5 ⟨rfl, hb5, hc5⟩
        have HB5 := hid ((Below.alloc HB.out hws.out _).trans hb5)
        have HC5 := hid hc5
        clear hb5 hc5 HCALL HB n1 n2 e1 e1' e2 e2' e3 e3'
        rcases HEE.out with ⟨rfl, hl⟩ | ⟨rfl, hl⟩
        · have q1 : ((i : Int) == (K : Int) - 1) = true := by simp; omega
          clear HEE hl
          go_wp2
          go_roundw
          case rel => exact ⟨i + 1, HK1.out, by go_num, HC5, HB5⟩
          case measure => have := HMS.out; simp [intOf]; omega
        · have q1 : ((i : Int) == (K : Int) - 1) = false := by simp; omega
          clear HEE hl
          go_wp2
          go_roundw
          case rel => exact ⟨i + 1, HK1.out, by go_num, HC5, HB5⟩
          case measure => have := HMS.out; simp [intOf]; omega
    · obtain rfl : i = K := by omega
      have hii : ¬ (i : Int) < (i : Int) := by omega
      clear hin hi
      go_wp2
      go_ret
      exact ⟨rfl, HB.out⟩
end Go.Proofs.Ytolfioiccmmifaa
