/- TimerFull's walk: at the limit of alarms a new one is refused, and old ones are still set anew. -/
import Derived.Test.YtacffoobeebleaaWTimL
import Derived.Laws.BytesArg
namespace Go.Proofs.Ytacffoobeebleaa
open Go.RowKit
theorem conv_two (W : World) (x y : Int) : (convert 38 9 (.slice (some ⟨W.heap.size, 0, none⟩) 2 2)).run Try.prog (W.alloc (.cells #[.int .u8 x, .int .u8 y] 5 (0, 0))) = .ok (.string (strOfNums [x, y])) (W.alloc (.cells #[.int .u8 x, .int .u8 y] 5 (0, 0))) := by
  refine run_convert_bytes_arg _ 38 5 Try.underlying38 Try.underlying5 W.heap.size 0 2 2 [x, y] rfl ?_ 9 Try.underlying9
  intro i hi
  rw [Nat.zero_add, blk_cell (alloc_at W _)]
  match i, hi with
  | 0, _ => rfl
  | 1, _ => rfl
/-- The name of number j. -/
def nmF (j : Nat) : ByteArray := strOfNums [((j % 256 : Nat) : Int), ((j / 256 : Nat) : Int)]
theorem nmF_size (j : Nat) : (nmF j).size = 2 := by unfold nmF; rw [strOfNums_size]; rfl
theorem nmF_inj {i j : Nat} (hi : i < 1024) (hj : j < 1024) (h : nmF i = nmF j) : i = j := by
  have h1 : (nmF i).data.toList = (nmF j).data.toList := by rw [h]
  unfold nmF at h1
  rw [strOfNums_data, strOfNums_data] at h1
  simp only [List.map_cons, List.map_nil, Int.toNat_natCast, List.cons.injEq, and_true] at h1
  have e1 := congrArg UInt8.toNat h1.1
  have e2 := congrArg UInt8.toNat h1.2
  simp only [UInt8.toNat_ofNat'] at e1 e2
  omega
/-- The clock that has the first k names, each at its number. -/
def FullI (k : Nat) (l : List Al) : Prop := l.length = k ∧ ∀ x, x ∈ l ↔ ∃ j, j < k ∧ x = (nmF j, (j : Int))
theorem fullI_step {k : Nat} {l l' : List Al} (hk : k < 1024) (h : FullI k l) (h' : SetR l (nmF k) (k : Int) l') : setE l (nmF k) = 0 ∧ FullI (k + 1) l' := by
  have hn : hasN l (nmF k) = false := hasN_not (fun x hx e => by
    obtain ⟨j, hj, rfl⟩ := (h.2 x).1 hx
    have := nmF_inj (by omega) hk e
    omega)
  have hne : ¬ (hasN l (nmF k) = false ∧ 1024 ≤ l.length) := fun e => by have := e.2; rw [h.1] at this; omega
  refine ⟨by unfold setE; rw [if_neg hne], ?_⟩
  unfold SetR at h'
  rw [if_neg hne, hn] at h'
  obtain ⟨q1, q2⟩ := h'
  refine ⟨by rw [← h.1]; simpa using q1, fun x => ?_⟩
  rw [q2, h.2]
  constructor
  · rintro (rfl | ⟨⟨j, hj, rfl⟩, -⟩)
    · exact ⟨k, by omega, rfl⟩
    · exact ⟨j, by omega, rfl⟩
  · rintro ⟨j, hj, rfl⟩
    by_cases e : j = k
    · subst e; exact .inl rfl
    · exact .inr ⟨⟨j, by omega, rfl⟩, fun e2 => e (nmF_inj (by omega) hk e2)⟩
theorem fullI_not {l : List Al} (h : FullI 1024 l) {s : ByteArray} (hs : s.size ≠ 2) : hasN l s = false := hasN_not (fun x hx e => by
  obtain ⟨j, -, rfl⟩ := (h.2 x).1 hx
  exact hs (by rw [← e]; exact nmF_size j))
theorem full_refused {l l' : List Al} {s : ByteArray} {t : Int} (h : FullI 1024 l) (hs : s.size ≠ 2) (h' : SetR l s t l') : setE l s = 6 ∧ l' = l := by
  have hn := fullI_not h hs
  have hc : hasN l s = false ∧ 1024 ≤ l.length := ⟨hn, by rw [h.1]; exact Nat.le_refl _⟩
  refine ⟨by unfold setE; rw [if_pos hc], ?_⟩
  unfold SetR at h'
  rw [if_pos hc] at h'
  exact h'
/-- The name of some number is set anew, and cancelled. -/
theorem full_again {l l' l2 : List Al} {j : Nat} {t : Int} (h : FullI 1024 l) (hj : j < 1024) (h' : SetR l (nmF j) t l') (h2 : CancelR l' (nmF j) l2) :
    setE l (nmF j) = 0 ∧ hasN l' (nmF j) = true ∧ l2.length = 1023 ∧ ∀ x, x ∈ l2 → x.1.size = 2 := by
  have hn : hasN l (nmF j) = true := (hasN_mem l _).2 ⟨(nmF j, (j : Int)), (h.2 _).2 ⟨j, hj, rfl⟩, rfl⟩
  have hne : ¬ (hasN l (nmF j) = false ∧ 1024 ≤ l.length) := fun e => by rw [hn] at e; exact absurd e.1 (by decide)
  unfold SetR at h'
  rw [if_neg hne, if_pos hn] at h'
  obtain ⟨q1, q2⟩ := h'
  have hn' : hasN l' (nmF j) = true := (hasN_mem l' _).2 ⟨(nmF j, t), (q2 _).2 (.inl rfl), rfl⟩
  obtain ⟨r1, r2⟩ := h2
  rw [if_pos hn', q1, h.1] at r1
  refine ⟨by unfold setE; rw [if_neg hne], hn', by omega, fun x hx => ?_⟩
  have h3 := ((r2 x).1 hx)
  rcases (q2 x).1 h3.1 with rfl | ⟨h4, -⟩
  · exact absurd rfl h3.2
  · obtain ⟨i, -, rfl⟩ := (h.2 x).1 h4
    exact nmF_size i
theorem full_new {l l' : List Al} {s : ByteArray} {t : Int} (hl : l.length = 1023) (hm : ∀ x, x ∈ l → x.1.size = 2) (hs : s.size ≠ 2) (h' : SetR l s t l') : setE l s = 0 ∧ l'.length = 1024 ∧ ∀ x, x ∈ l' → x.1.size = 2 ∨ x.1 = s := by
  have hn : hasN l s = false := hasN_not (fun x hx e => hs (by rw [← e]; exact hm x hx))
  have hne : ¬ (hasN l s = false ∧ 1024 ≤ l.length) := fun e => by have := e.2; omega
  unfold SetR at h'
  rw [if_neg hne, hn] at h'
  obtain ⟨q1, q2⟩ := h'
  refine ⟨by unfold setE; rw [if_neg hne], by simp at q1; omega, fun x hx => ?_⟩
  rcases (q2 x).1 hx with rfl | ⟨h, -⟩
  · exact .inr rfl
  · exact .inl (hm x h)
theorem full_last {l : List Al} {s r : ByteArray} (hl : l.length = 1024) (hm : ∀ x, x ∈ l → x.1.size = 2 ∨ x.1 = r) (hs : s.size ≠ 2) (hr : r.size ≠ s.size) : setE l s = 6 := by
  have hn : hasN l s = false := hasN_not (fun x hx e => by
    rcases hm x hx with h | h
    · exact hs (by rw [← e]; exact h)
    · exact hr (by rw [← h, e]))
  unfold setE
  rw [if_pos ⟨hn, by omega⟩]
set_option maxRecDepth 20000 in
set_option maxHeartbeats 4000000 in
theorem timerFull_any (m : Nat) (t : Int) (w : World) (hm : m ≤ 255) :
    Calls Try.prog 5 #[.int .u8 m, .int .i64 t] w fun e w' => e = .returned (.bool true) ∧ Below w.heap.size w w' := by
  have HM : Hid (m ≤ 255) := hm
  go_enter Try.func5, Try.ntmps5
  go_wp2_with fail
  refine (awake_any w).mono ?_
  rintro e w1 ⟨rfl, hb1⟩
  have B1 := hid hb1
  clear hb1
  go_wp2_with fail
  refine (new_any w1).mono ?_
  rintro e w2 ⟨rfl, hb2, k2⟩
  have B2 := hid (B1.out.trans (hb2.mono B1.out.size))
  have K2 := hid k2
  have Z : Hid (w.heap.size ≤ w1.heap.size) := B1.out.size
  clear hb2 k2
  go_wp2
  go_loopw [6] (fun i wr => ∃ k : Nat, k ≤ 1024 ∧ i = .int .i64 k ∧ Hid (∃ v m l, Clk w1.heap.size wr w1.heap.size v m l ∧ FullI k l ∧ Below w.heap.size w wr)) (fun i _ => 1024 - (intOf i).toNat)
  case atStart => exact ⟨0, by omega, rfl, _, _, [], K2.out, ⟨rfl, fun x => ⟨(fun h => nomatch h), fun ⟨j, hj, _⟩ => absurd hj (Nat.not_lt_zero j)⟩⟩, B2.out⟩
  case round =>
    obtain ⟨k, hk, rfl, hh⟩ := hrel
    have hcv := conv_two wr
    by_cases hkl : k < 1024
    · have hki : (k : Int) < 1024 := by omega
      obtain ⟨x, hx⟩ : ∃ x, x = k % 256 := ⟨_, rfl⟩
      obtain ⟨y, hy⟩ : ∃ y, y = k / 256 := ⟨_, rfl⟩
      have iw1 : IntKind.u8.wrap (k : Int) = (x : Int) := by rw [hx]; simp [IntKind.wrap, IntKind.bits, IntKind.signed]
      have iw2 : (k : Int).tdiv 256 = (y : Int) := by rw [hy, Int.tdiv_eq_ediv_of_nonneg (by omega)]; omega
      have iw3 : IntKind.i64.wrap (y : Int) = (y : Int) := IntWalk.i64_in _ (by omega)
      have iw4 : IntKind.u8.wrap (y : Int) = (y : Int) := by simp [IntKind.wrap, IntKind.bits, IntKind.signed]; omega
      have hnm : Hid (nmF k = strOfNums [(x : Int), (y : Int)]) := by unfold Hid nmF; rw [← hx, ← hy]
      clear hx hy
      go_wp2_with fail
      obtain ⟨v, m', l, kc, fi, bel⟩ := hh.out
      have hFI := hid fi
      refine (set_any w1.heap.size w1.heap.size v m' l (strOfNums [(x : Int), (y : Int)]) k _ (kc.below (below_alloc (Below.refl _ _) _)) (by rw [← hnm.out, nmF_size]; unfold maxLen; omega)).mono ?_
      rintro e w3 ⟨rfl, v3, m3, l3, k3, q3, t3, f3⟩
      rw [← hnm.out] at q3 ⊢
      obtain ⟨hE, fi3⟩ := fullI_step hkl hFI.out q3
      rw [hE]
      have B3 : Hid (Below w.heap.size w w3) := (bel.alloc (by have := bel.size; omega) _).trans ((t3.below (B := w1.heap.size) (by have := kc.le; simp; omega) (fun k hk => (kc.foot hk).1)).mono Z.out)
      have H3 : Hid (∃ v m l, Clk w1.heap.size w3 w1.heap.size v m l ∧ FullI (k + 1) l ∧ Below w.heap.size w w3) := ⟨v3, m3, l3, k3, fi3, B3.out⟩
      have HK : Hid (k + 1 ≤ 1024) := hkl
      have iw5 : IntKind.i64.wrap ((k : Int) + 1) = (k : Int) + 1 := IntWalk.i64_in _ (by omega)
      clear kc fi bel k3 q3 t3 f3 hE fi3 hcv iw1 iw2 iw3 iw4
      go_wp2
      go_roundw
      case rel => exact ⟨k + 1, HK.out, by go_num, H3.out⟩
      case measure => simp [intOf]; omega
    · obtain rfl : k = 1024 := by omega
      obtain ⟨v, m', l, kc, fi, bel⟩ := hh.out
      have KC := hid kc
      have FI := hid fi
      have BL := hid bel
      clear kc fi bel hcv hh hkl hk
      go_wp2_with fail
      refine (set_any w1.heap.size w1.heap.size v m' l _ t wr KC.out (by show 7 ≤ maxLen; unfold maxLen; omega)).mono ?_
      rintro e w3 ⟨rfl, v3, m3, l3, k3, q3, t3, f3⟩
      obtain ⟨hE, rfl⟩ := full_refused FI.out (by decide) q3
      rw [hE]
      have K3 := hid k3
      have B3 := hid (BL.out.trans ((t3.below (B := w1.heap.size) KC.out.le (fun k hk => (KC.out.foot hk).1)).mono Z.out))
      clear k3 q3 t3 f3 hE
      go_wp2_with fail
      refine (lenc_any w1.heap.size w1.heap.size v3 m3 l3 w3 K3.out).mono ?_
      rintro e w4 ⟨rfl, hb4⟩
      rw [FI.out.1]
      have K4 := hid (K3.out.below hb4)
      have b4 := B3.out.trans (hb4.mono B3.out.size)
      have s4 := b4.size
      have B4 := hid b4
      clear hb4 b4
      obtain ⟨j, hj⟩ : ∃ j, j = m + 256 * (m % 4) := ⟨_, rfl⟩
      obtain ⟨y, hy⟩ : ∃ y, y = m % 4 := ⟨_, rfl⟩
      have iw2 : (m : Int).tmod 4 = (y : Int) := by rw [hy, Int.tmod_eq_emod_of_nonneg (by omega)]; omega
      have iw4 : IntKind.u8.wrap (y : Int) = (y : Int) := by simp [IntKind.wrap, IntKind.bits, IntKind.signed]; omega
      have hnm : Hid (nmF j = strOfNums [(m : Int), (y : Int)]) := by
        unfold Hid nmF
        rw [hj, hy, show (m + 256 * (m % 4)) % 256 = m by omega, show (m + 256 * (m % 4)) / 256 = m % 4 by omega]
      have HJ : Hid (j < 1024) := by unfold Hid; omega
      have hcv := conv_two w4
      clear hj hy
      go_wp2_with fail
      refine (set_any w1.heap.size w1.heap.size v3 m3 l3 (strOfNums [(m : Int), (y : Int)]) t _ (K4.out.below (below_alloc (Below.refl _ _) _)) (by rw [← hnm.out, nmF_size]; unfold maxLen; omega)).mono ?_
      rintro e w5 ⟨rfl, v5, m5, l5, k5, q5, t5, f5⟩
      rw [← hnm.out] at q5 ⊢
      have K5 := hid k5
      have Q5 := hid q5
      have B5 := hid ((B4.out.alloc (by have := B4.out.size; omega) (.cells #[.int .u8 m, .int .u8 y] 5 (0, 0))).trans ((t5.below (B := w1.heap.size) (by have := K4.out.le; simp; omega) (fun k hk => (K4.out.foot hk).1)).mono Z.out))
      have hE5 : Hid (setE l3 (nmF j) = 0) := by
        have hn : hasN l3 (nmF j) = true := (hasN_mem l3 _).2 ⟨(nmF j, (j : Int)), (FI.out.2 _).2 ⟨j, HJ.out, rfl⟩, rfl⟩
        unfold Hid setE
        rw [if_neg (fun e => by rw [hn] at e; exact absurd e.1 (by decide))]
      rw [hE5.out]
      clear k5 q5 t5 f5 hcv iw2 iw4 s4
      go_wp2_with fail
      refine (cancel_any w1.heap.size w1.heap.size v5 m5 l5 (nmF j) w5 K5.out (by rw [nmF_size]; unfold maxLen; omega)).mono ?_
      rintro e w6 ⟨rfl, v6, m6, l6, k6, q6, t6, f6⟩
      obtain ⟨-, hh6, hl6, hm6⟩ := full_again FI.out HJ.out Q5.out q6
      rw [hh6]
      have K6 := hid k6
      have L6 := hid hl6
      have M6 := hid hm6
      have B6 := hid (B5.out.trans ((t6.below (B := w1.heap.size) K5.out.le (fun k hk => (K5.out.foot hk).1)).mono Z.out))
      clear k6 q6 t6 f6 hh6 hl6 hm6
      go_wp2_with fail
      refine (set_any w1.heap.size w1.heap.size v6 m6 l6 _ t w6 K6.out (by show 7 ≤ maxLen; unfold maxLen; omega)).mono ?_
      rintro e w7 ⟨rfl, v7, m7, l7, k7, q7, t7, f7⟩
      obtain ⟨hE7, hl7, hm7⟩ := full_new L6.out M6.out (by decide) q7
      rw [hE7]
      have K7 := hid k7
      have L7 := hid hl7
      have M7 := hid hm7
      have B7 := hid (B6.out.trans ((t7.below (B := w1.heap.size) K6.out.le (fun k hk => (K6.out.foot hk).1)).mono Z.out))
      clear k7 q7 t7 f7 hE7 hl7 hm7
      go_wp2_with fail
      refine (set_any w1.heap.size w1.heap.size v7 m7 l7 _ t w7 K7.out (by show 8 ≤ maxLen; unfold maxLen; omega)).mono ?_
      rintro e w8 ⟨rfl, v8, m8, l8, k8, q8, t8, f8⟩
      rw [full_last L7.out M7.out (by decide) (by decide)]
      have B8 := hid (B7.out.trans ((t8.below (B := w1.heap.size) K7.out.le (fun k hk => (K7.out.foot hk).1)).mono Z.out))
      clear k8 q8 t8 f8
      go_wp2
      go_ret
      exact ⟨rfl, B8.out⟩
end Go.Proofs.Ytacffoobeebleaa
