/- Chapter 12's statements: awake, In; Add as callers want it. -/
import Derived.Test.YtolfioiccmmifaaDgH
namespace Go.Proofs.Ytolfioiccmmifaa
open Go.RowKit
variable {B H : Nat} {w w' : World} {R R' : Nat → Value} {G G' : Gr}
theorem dd_nil : dd [] = [] := by
  have : ∀ x, x ∉ dd [] := fun x hx => by have := (dd_mem.1 hx).2; cases this
  exact List.eq_nil_iff_forall_not_mem.2 this
theorem dd_one {x : Nat} (hx : x ≤ 100) : dd [(x : Int)] = [x] := by
  refine (pick_of (by simp) fun y => ?_).symm
  rw [List.mem_singleton, List.mem_singleton]
  constructor
  · rintro rfl; exact ⟨hx, rfl⟩
  · rintro ⟨-, e⟩; omega
theorem GrV.belowB (h : GrV B w H R G) (t : Tur (FootD H R) w w') {b : Nat} (hb : b ≤ B) : Below b w w' := t.below (Nat.le_trans hb h.le) (fun _ hk => Nat.le_trans hb (h.foot hk).1)
/-- Add where nothing stands against it. -/
theorem add_fit (h : GrV B w H R G) (ok : G.Ok) {id : Nat} {A : Option Addr} {n cap : Nat} {zs : List Int} (hs : SlZ w A n zs) (hn : n ≤ 100000) (hz : ∀ z ∈ zs, okId z) (hf : G.Fit id (dd zs)) :
    Calls Try.prog 11 #[.pointer (some ⟨H, 0, none⟩), .int .i64 id, .slice A n cap] w fun e w' => e = .returned (.tuple #[.bool (decide (G.cntN (dd zs) = 0)), .int .i64 0]) ∧ (∃ R', GrV B w' H R' (G.add id (dd zs)) ∧ GrowD w H R R') ∧ Tur (FootD H R) w w' := by
  refine (add_g h ok id hs hn).mono ?_
  intro e w' hp
  have ei : ((id : Nat) : Int).toNat = id := by omega
  have ho : okId ((id : Nat) : Int) := ⟨by have := hf.i; omega, by have := hf.i; omega⟩
  cases hp with
  | range h1 => exact absurd ⟨ho, hz⟩ h1
  | twice _ h2 => rw [ei] at h2; exact absurd hf.ab h2
  | cycle _ _ h3 =>
    rw [ei] at h3
    obtain ⟨p, hp, q⟩ := h3
    exact absurd q (fun q => by rcases q with q | q; exact (hf.cy p hp).1 q; exact (hf.cy p hp).2 q)
  | state _ _ _ h4 =>
    obtain ⟨p, hp, q⟩ := h4
    exact absurd q (hf.fa p hp)
  | ok _ _ h1 h2 h3 => rw [ei] at h2; exact ⟨h1, h2, h3⟩
/-- Add that would close a ring. -/
theorem add_ring (h : GrV B w H R G) (ok : G.Ok) {id : Nat} {A : Option Addr} {n cap : Nat} {zs : List Int} (hs : SlZ w A n zs) (hn : n ≤ 100000) (hi : 1 ≤ id ∧ id ≤ 100) (hz : ∀ z ∈ zs, okId z) (hab : G.st id = 0) (hc : ∃ p ∈ dd zs, p = id ∨ G.Rch id p) :
    Calls Try.prog 11 #[.pointer (some ⟨H, 0, none⟩), .int .i64 id, .slice A n cap] w fun e w' => e = .returned (.tuple #[.bool false, .int .i64 8]) ∧ Below w.heap.size w w' := by
  refine (add_g h ok id hs hn).mono ?_
  intro e w' hp
  have ei : ((id : Nat) : Int).toNat = id := by omega
  have ho : okId ((id : Nat) : Int) := ⟨by omega, by omega⟩
  have no : (∀ p ∈ dd zs, p ≠ id ∧ ¬ G.Rch id p) → False := fun q => by
    obtain ⟨p, hp, z⟩ := hc
    rcases z with z | z
    · exact (q p hp).1 z
    · exact (q p hp).2 z
  cases hp with
  | range h1 => exact absurd ⟨ho, hz⟩ h1
  | twice _ h2 => rw [ei] at h2; exact absurd hab h2
  | cycle _ _ _ h1 h2 => exact ⟨h1, h2⟩
  | state _ _ h3 => rw [ei] at h3; exact absurd h3 no
  | ok _ h2 => rw [ei] at h2; exact absurd (fun p hp => h2.cy p hp) no
theorem fit0 : gr0.Fit 1 (dd []) := by
  rw [dd_nil]
  exact ⟨by omega, rfl, List.Pairwise.nil, (fun p hp => nomatch hp), (fun p hp => nomatch hp), (fun p hp => nomatch hp)⟩
set_option maxRecDepth 20000 in
set_option maxHeartbeats 4000000 in
theorem awake_g (w : World) : Calls Try.prog 9 #[] w fun e w' => e = .returned (.bool true) ∧ Below w.heap.size w w' := by
  go_enter Try.func9, Try.ntmps9
  go_wp2_with fail
  refine (new_g w.heap.size w (Nat.le_refl _)).mono ?_
  rintro e w1 ⟨rfl, hb1, hG1⟩
  have HB1 := hid hb1
  have HADD := hid (add_fit (id := 1) (A := none) (n := 0) (cap := 0) (zs := []) hG1 ok0 ⟨rfl, .inl rfl⟩ (by omega) (fun z hz => nomatch hz) fit0)
  have HG1 := hid hG1
  have HC : Hid (decide (gr0.cntN (dd []) = 0) = true) := by unfold Hid; rw [dd_nil]; rfl
  rw [HC.out] at HADD
  clear hb1 hG1
  go_wp2_with fail
  refine HADD.out.mono ?_
  rintro e w2 ⟨rfl, ⟨R2, hG2, -⟩, hT2⟩
  have HB2 := hid (HB1.out.trans (HG1.out.belowB hT2 (Nat.le_refl _)))
  have hfr := free_g hG2 1
  have HF : Hid ((gr0.add 1 (dd [])).freeB 1 = true) := by
    unfold Hid Gr.freeB
    rw [dd_nil]
    exact decide_eq_true ⟨⟨⟨by decide, by decide⟩, by decide⟩, by decide, by decide⟩
  rw [HF.out] at hfr
  have HFR := hid hfr
  clear hG2 hT2 hfr HADD HG1 HB1
  go_wp2_with fail
  refine HFR.out.mono ?_
  rintro e w3 ⟨rfl, hb3⟩
  have HB3 := hid (HB2.out.trans (hb3.mono HB2.out.size))
  clear hb3 HFR
  go_wp2
  go_ret
  exact ⟨rfl, HB3.out⟩
set_option maxHeartbeats 2000000 in
theorem in_any {A : Option Addr} {n cap : Nat} {zs : List Int} (x : Int) (h : SlZ w A n zs) (hn : n ≤ 1048576) : Calls Try.prog 14 #[.slice A n cap, .int .i64 x] w fun e w' => e = .returned (.bool (decide (x ∈ zs))) ∧ w = w' := by
  have HS := hid h
  have hnb : (n : Int) ≤ 1048576 := by omega
  obtain ⟨r, hr⟩ : ∃ r, r = decide (x ∈ zs) := ⟨_, rfl⟩
  have HR := hid hr
  rw [← hr]
  clear h hn hr
  go_enter Try.func14, Try.ntmps14
  go_wp2_with fail
  go_loopw [5] (fun iv wr => ∃ i : Nat, i ≤ n ∧ iv = .int .i64 i ∧ Hid (∀ j, j < i → zs.getD j 0 ≠ x) ∧ wr = w) (fun iv _ => n - (intOf iv).toNat)
  case atStart => exact ⟨0, Nat.zero_le _, rfl, hid (fun j hj => by omega), rfl⟩
  case round =>
    obtain ⟨i, hi, rfl, HA, rfl⟩ := hrel
    by_cases hin : i < n
    · have HK1 : Hid (i + 1 ≤ n) := hin
      have HMS : Hid (n - (i + 1) < n - i) := by unfold Hid; omega
      have hii : (i : Int) < (n : Int) := by omega
      obtain ⟨e1, rfl | ⟨b, off, rfl, hl, hc⟩⟩ := HS.out
      · simp at e1; omega
      · have c0 := hc i (by omega)
        obtain ⟨z, hz⟩ : ∃ z, z = zs.getD i 0 := ⟨_, rfl⟩
        have HM : Hid (z ∈ zs) := by
          rw [hz, List.getD_eq_getElem?_getD, List.getElem?_eq_getElem (by omega)]
          exact List.getElem_mem _
        rw [← hz] at c0
        have HZ := hid hz
        clear hc e1 hin hi hz
        by_cases h1 : z = x
        · subst h1
          have F : r = true := by rw [HR.out]; exact decide_eq_true HM.out
          subst F
          go_wp2
          go_ret
          exact ⟨rfl, rfl⟩
        · have hne : (z == x) = false := by simpa using h1
          have HA2 : Hid (∀ j, j < i + 1 → zs.getD j 0 ≠ x) := fun j hj => by
            by_cases q : j = i
            · rw [q, ← HZ.out]; exact h1
            · exact HA.out j (by omega)
          clear h1
          go_wp2
          go_roundw
          case rel => exact ⟨i + 1, HK1.out, by go_num, HA2, by trivial⟩
          case measure => have := HMS.out; simp [intOf]; omega
    · have F : r = false := by
        rw [HR.out]
        refine decide_eq_false fun hz => ?_
        obtain ⟨j, hj, e⟩ := List.mem_iff_getElem.1 hz
        have := HA.out j (by have := HS.out.1; omega)
        rw [List.getD_eq_getElem?_getD, List.getElem?_eq_getElem hj] at this
        exact this e
      subst F
      have hii : ¬ (i : Int) < (n : Int) := by omega
      clear hi hin
      go_wp2
      go_ret
      exact ⟨rfl, rfl⟩
end Go.Proofs.Ytolfioiccmmifaa
