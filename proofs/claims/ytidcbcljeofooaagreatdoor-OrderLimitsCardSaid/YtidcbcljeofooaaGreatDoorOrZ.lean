/- Chapter 20: the program's Parse. -/
import Derived.Test.YtidcbcljeofooaaGreatDoorOrY
import Derived.Test.YtidcbcljeofooaaGreatDoorOrMb
import Derived.Test.YtidcbcljeofooaaGreatDoorTab
namespace Go.Proofs.YtidcbcljeofooaaGreatDoor
open Go.RowKit
/-- What Parse answers. -/
def ParQ (s : ByteArray) (w : World) (e : Ending) (w' : World) : Prop := ∃ sl, e = .returned (.tuple #[.agg (cmB (lineP s).1 sl), .int .i64 (lineP s).2]) ∧ CmL w' (lineP s).1 sl ∧ Below w.heap.size w w'
theorem parQ_err {s : ByteArray} {w w' : World} {x : Int} (h : lineP s = (cm0, x)) (hb : Below w.heap.size w w') : ParQ s w (.returned (.tuple #[.agg (cmB cm0 s0), .int .i64 x])) w' := by
  refine ⟨s0, by rw [h], ?_, hb⟩
  rw [h]
  exact cml_of (cms_zero _) (sl4_nil _ _ _ rfl rfl rfl rfl)
theorem slG_setRow {α : Type} {z : Nat} {f : α → Nat → Value} {w : World} {A : Option Addr} {n g : Nat} {l : List α} {cs : Array Value} (h : SlG z f w A n l) (hA : ∀ a, A = some a → g ≠ a.block) : SlG z f (w.setRow g cs) A n l := by
  obtain ⟨h1, rfl | ⟨b, off, rfl, hl, hc⟩⟩ := h
  · exact ⟨h1, .inl rfl⟩
  · have hg : g ≠ b := hA _ rfl
    refine ⟨h1, .inr ⟨b, off, rfl, by simpa [World.setRow] using hl, fun i x hi c hz => ?_⟩⟩
    rw [← hc i x hi c hz]
    unfold World.cell?
    rw [setRow_other w g b cs (fun e => hg e.symm)]
theorem parQ_ok {s : ByteArray} {w w2 w3 w4 : World} {c : Cm} {sl : Sls} {cs : Array Value} {o : Obj} (h : lineP s = (c, 0)) (hb : Below w.heap.size w (w4.setRow w.heap.size cs)) (hs : Sl4 w3 c.job sl) (hx : Below w3.heap.size w3 w4) (hsb : SlsB (w2.alloc o).heap.size sl) (hz : w.heap.size ≤ w2.heap.size) : ParQ s w (.returned (.tuple #[.agg (cmB c sl), .int .i64 0])) (w4.setRow w.heap.size cs) := by
  refine ⟨sl, by rw [h], ?_, hb⟩
  have := line_small s
  rw [h] at this ⊢
  have hf : ∀ a, (sl.a1 = some a ∨ sl.a2 = some a ∨ sl.a3 = some a ∨ sl.a4 = some a) → w.heap.size ≠ a.block := fun a ha => by
    have := hsb a ha
    rw [World.size_alloc] at this
    omega
  have h4 := hs.below hx
  exact cml_of this ⟨slG_setRow h4.p fun a ha => hf a (.inl ha), slG_setRow h4.t fun a ha => hf a (.inr (.inl ha)), slG_setRow h4.n fun a ha => hf a (.inr (.inr (.inl ha))), slG_setRow h4.d fun a ha => hf a (.inr (.inr (.inr ha)))⟩
section
attribute [local go_sem ↓] zeroCmd buildCmd0
set_option maxHeartbeats 16000000 in
set_option maxRecDepth 20000 in
theorem parse_any (s : ByteArray) (w : World) (hT : Lib.Utf8Tabs 0 1 w) : Calls Tryz.prog 9 #[.string s] w (ParQ s w) := by
  have hne := cmB_ne cm0 s0
  have HT := hid hT
  clear hT
  have hA : (w.alloc (.cells (cmB cm0 s0) 33)).heap[w.heap.size]? = some (.cells (cmB cm0 s0) 33 (0, 0)) := alloc_at _ _
  by_cases h512 : 512 < s.size
  · have hi : (512 : Int) < (s.size : Int) := by omega
    have HL := hid (line_long h512)
    clear h512
    go_enter Tryz.func9, Tryz.ntmps9
    go_wp2_with (first | (refine wpList_store_row rfl 33 (.tmp 2) (.tmp 14) rfl w.heap.size (cmB cm0 s0) (by simp [Act.eval]) (by simp [Act.eval]) _ _ hA (infoC' _ _) (cmB_sizes _ _ _ _) (cmB_ones _ _) ?_))
    refine ret_row2 rfl w.heap.size (cmB cm0 s0) 33 _ rfl Tryz.underlying33 rfl (infoC' _ _) rfl ⟨_, setRow_at hA _, rfl⟩ (parQ_err HL.out (by repeat (first | with_reducible assumption | with_reducible exact Below.refl _ _ | with_reducible refine Below.drew ?_ | with_reducible refine below_drewN ?_ _ | with_reducible refine below_alloc ?_ _ | with_reducible refine Below.alloc ?_ (by first | omega | (simp; done) | (simp; omega)) _ | with_reducible refine Below.setCell ?_ (by first | omega | (simp; done) | (simp; omega)) _ | with_reducible refine below_setRow ?_ (by first | omega | (simp; done) | (simp; omega)) _)))
  have hi : ¬ (512 : Int) < (s.size : Int) := by omega
  have H5 := hid h512
  clear h512
  have HWQ := hid (fun W (hb : Below w.heap.size w W) => words_any s W (by have := H5.out; omega) (hdec_of (tabs_below HT.out (tabs_size HT.out) hb) s))
  go_enter Tryz.func9, Tryz.ntmps9
  go_wp2_with fail
  refine (HWQ.out _ (by repeat (first | with_reducible assumption | with_reducible exact Below.refl _ _ | with_reducible refine Below.drew ?_ | with_reducible refine below_drewN ?_ _ | with_reducible refine below_alloc ?_ _ | with_reducible refine Below.alloc ?_ (by first | omega | (simp; done) | (simp; omega)) _ | with_reducible refine Below.setCell ?_ (by first | omega | (simp; done) | (simp; omega)) _ | with_reducible refine below_setRow ?_ (by first | omega | (simp; done) | (simp; omega)) _))).mono ?_
  rintro e w1 ⟨v, rfl, hrow, hb1⟩
  have B1 : Below w.heap.size w w1 := below_one hb1
  have A1 : w1.heap[w.heap.size]? = some (.cells (cmB cm0 s0) 33 (0, 0)) := (hb1.block _ (by simp)).trans hA
  have HROW := hid hrow
  have HB1 := hid B1
  clear hA hb1 hrow HWQ B1
  by_cases he : (wres s).2.2 = 0
  · have HE := hid he
    rw [he]
    obtain ⟨ws, hws⟩ : ∃ ws, ws = (wres s).1 := ⟨_, rfl⟩
    have HWS := hid hws
    unfold Hid at HROW
    rw [← hws] at HROW
    have HROW2 := hid HROW
    clear he HROW hws
    obtain ⟨A, cp, rfl⟩ := rowR_shape HROW2.out
    by_cases hnil : ws = []
    · have HL : Hid (lineP s = (cm0, 13)) := line_kind H5.out HE.out (by rw [← HWS.out, hnil]; rfl)
      clear HROW2 HWS
      subst hnil
      go_wp2_with (first | (refine wpList_store_row rfl 33 (.tmp 2) (.tmp 28) rfl w.heap.size (cmB cm0 s0) (by simp [Act.eval]) (by simp [Act.eval]) _ _ A1 (infoC' _ _) (cmB_sizes _ _ _ _) (cmB_ones _ _) ?_))
      refine ret_row2 rfl w.heap.size (cmB cm0 s0) 33 _ rfl Tryz.underlying33 rfl (infoC' _ _) rfl ⟨_, setRow_at A1 _, rfl⟩ (parQ_err HL.out (Below.trans HB1.out (by repeat (first | with_reducible assumption | with_reducible exact Below.refl _ _ | with_reducible refine Below.drew ?_ | with_reducible refine below_drewN ?_ _ | with_reducible refine Below.alloc ?_ (by first | omega | (simp; done) | (simp; omega)) _ | with_reducible refine Below.setCell ?_ (by first | omega | (simp; done) | (simp; omega)) _ | with_reducible refine below_setRow ?_ (by first | omega | (simp; done) | (simp; omega)) _))))
    · obtain ⟨a, t, rfl⟩ : ∃ a t, ws = a :: t := by cases ws with | nil => exact absurd rfl hnil | cons a t => exact ⟨a, t, rfl⟩
      have hcost := words_cost HE.out
      rw [← HWS.out] at hcost
      have HSM2 : Hid (cost (a :: t) ≤ 513 ∧ True) := ⟨by have := H5.out; omega, trivial⟩
      have HSM : Hid (∀ x ∈ a :: t, x.size ≤ 100000) := fun x hx => by have := cost_mem hx; have := HSM2.out.1; omega
      have hlen5 : t.length + 1 ≤ 513 := by have := cost_len (a :: t); have := HSM2.out.1; rw [List.length_cons] at *; omega
      clear hnil hcost
      obtain ⟨b, cap, e', hcap, hwd⟩ := wds_of (R := w1.heap.size) HROW2.out (by simp) HSM.out (Below.refl _ _) (Nat.le_refl _)
      injection e' with e1 e2 e3
      subst e1 e3
      have c0 : w1.cell? ⟨b, 0, none⟩ = some (.string a) := hwd.cell 0 a rfl
      obtain ⟨n, hn⟩ : ∃ n, n = (a :: t).length := ⟨_, rfl⟩
      have HNB : Hid (n = (a :: t).length ∧ n ≤ 513) := ⟨hn, by rw [hn, List.length_cons]; exact hlen5⟩
      have HCN2 : Hid (n = t.length + 1) := by rw [hn]; rfl
      rw [← hn]
      have hn0 : ¬ (n : Int) = 0 := by have := HCN2.out; unfold Hid at this; omega
      have hn1 : (0 : Int) < (n : Int) := by omega
      clear hwd hcap e2 hn hlen5
      go_wp2_with fail
      refine (count_any a _).mono ?_
      rintro e w2 ⟨rfl, hb2⟩
      have HB12 := hid hb2
      have HB2 := hid (HB1.out.trans (hb2.mono HB1.out.size))
      have A2 := (hb2.block _ (lt_of_at A1)).trans A1
      obtain ⟨cn, hcn⟩ : ∃ q, q = (cntP a.data.toList).1 := ⟨_, rfl⟩
      obtain ⟨ck, hck⟩ : ∃ q, q = (cntP a.data.toList).2 := ⟨_, rfl⟩
      rw [← hcn, ← hck]
      have HCN : Hid (cn = (cntP a.data.toList).1 ∧ ck = (cntP a.data.toList).2) := ⟨hcn, hck⟩
      clear hcn hck c0 A1 hb2
      by_cases d0 : (cn : Int) = 0
      · skip
        have HL : Hid (lineP s = (cm0, 13)) := line_kind H5.out HE.out (by rw [← HWS.out]; exact kind_no (by rw [← HCN.out.1, ← HCN.out.2]; first | exact .inl (by omega) | (right; have h9 := HCN2.out; unfold Hid at h9; exact ⟨by omega, by omega⟩)))
        clear HROW2
        go_wp2_with (first | (refine wpList_store_row rfl 33 (.tmp 2) (.tmp 54) rfl w.heap.size (cmB cm0 s0) (by simp [Act.eval]) (by simp [Act.eval]) _ _ A2 (infoC' _ _) (cmB_sizes _ _ _ _) (cmB_ones _ _) ?_))
        refine ret_row2 rfl w.heap.size (cmB cm0 s0) 33 _ rfl Tryz.underlying33 rfl (infoC' _ _) rfl ⟨_, setRow_at A2 _, rfl⟩ (parQ_err HL.out (by have h0 := HB2.out; exact (by repeat (first | with_reducible assumption | with_reducible exact Below.refl _ _ | with_reducible refine Below.drew ?_ | with_reducible refine below_drewN ?_ _ | with_reducible refine Below.alloc ?_ (by first | omega | (simp; done) | (simp; omega)) _ | with_reducible refine Below.setCell ?_ (by first | omega | (simp; done) | (simp; omega)) _ | with_reducible refine below_setRow ?_ (by first | omega | (simp; done) | (simp; omega)) _))))
      by_cases d1 : (n : Int) = (cn : Int)
      · skip
        have hkind : kindP (a :: t) = ck := by rw [HCN.out.2]; exact kind_yes (by rw [← HCN.out.1]; omega) (by rw [← HCN.out.1, ← HCN.out.2]; have := HCN2.out; omega)
        have hk0 : kindP (a :: t) ≠ 0 := by rw [hkind, HCN.out.2]; exact cnt_pos (by rw [← HCN.out.1]; omega)
        have HK := hid (⟨hkind, hk0⟩ : kindP (a :: t) = ck ∧ kindP (a :: t) ≠ 0)
        clear hkind hk0
        have HCOM : Hid (Calls Tryz.prog 25 #[.pointer (some ⟨w2.heap.size, 0, none⟩), .int .i64 ck, .slice (some ⟨b, 0, none⟩) n cp] (w2.alloc (.cells #[.bool false] 63)) (ComQ w2.heap.size false ck (a :: t) (w2.alloc (.cells #[.bool false] 63)))) := by
          obtain ⟨b', cap', e', hc', hw'⟩ := wds_of (w' := w2.alloc (.cells #[.bool false] 63)) (R := w2.heap.size) HROW2.out (by simp) HSM.out (below_alloc HB12.out _) HB12.out.size
          injection e' with e1 e2 e3
          injection e1 with e1
          injection e1 with e1
          subst e1 e3
          have := command_any (ws := a :: t) false (alloc_at w2 _) hw' HK.out.2 (by have := HCN2.out; have := HNB.out; rw [List.length_cons]; omega) hc'
          rw [HK.out.1, ← HNB.out.1] at this
          exact this
        go_wp2_with fail
        refine HCOM.out.mono ?_
        rintro e w3 ⟨v3, ⟨c3, s3, hv3⟩, rfl, hr3, hc3⟩
        have B3 := hid (below_rdr (below_alloc HB2.out (.cells #[.bool false] 63)) hr3 HB2.out.size)
        have A3 := hr3.blk (alloc_at_lt A2 (.cells #[.bool false] 63)) (by have := lt_of_at A2; omega)
        have R3 := hr3.1
        have HR3 := hid R3
        have lr3 : w2.heap.size < w3.heap.size := lt_of_at R3
        have HW3 := hid A3
        clear R3 hr3 HCOM
        have hz : w.heap.size < w3.heap.size := lt_of_at A3
        have hA3 : (w3.alloc (.cells (cmB cm0 s0) 33)).heap[w3.heap.size]? = some (.cells (cmB cm0 s0) 33 (0, 0)) := alloc_at _ _
        cases hq : cmdP ck (a :: t) with
        | none =>
          subst hv3
          have r3 : ((w3.alloc (.cells (cmB cm0 s0) 33)).setRow w3.heap.size (cmB c3 s3)).cell? ⟨w2.heap.size, 0, none⟩ = some (.bool true) := (blk_cell (setRow_ne (by omega) (alloc_at_lt HR3.out _) _) 0).trans (by rw [hq]; rfl)
          have HL : Hid (lineP s = (cm0, 12)) := line_bad H5.out HE.out (by rw [← HWS.out]; exact HK.out.2) (by rw [← HWS.out, HK.out.1]; exact hq)
          have AA : ((w3.alloc (.cells (cmB cm0 s0) 33)).setRow w3.heap.size (cmB c3 s3)).heap[w.heap.size]? = some (.cells (cmB cm0 s0) 33 (0, 0)) := setRow_ne (by omega) (alloc_at_lt A3 _) _
          clear hq hc3 A3
          go_wp2_with (first | (refine wpList_store_row rfl 33 (.tmp 10) (.tmp 57) rfl w3.heap.size (cmB c3 s3) (by simp [Act.eval]) (by simp [Act.eval]) _ _ hA3 (infoC' _ _) (cmB_sizes _ _ _ _) (cmB_ones _ _) ?_) | (refine wpList_store_row rfl 33 (.tmp 2) (.tmp 61) rfl w.heap.size (cmB cm0 s0) (by simp [Act.eval, Act.put]) (by simp [Act.eval, Act.put]) _ _ AA (infoC' _ _) (cmB_sizes _ _ _ _) (cmB_ones _ _) ?_))
          refine ret_row2 rfl w.heap.size (cmB cm0 s0) 33 _ rfl Tryz.underlying33 rfl (infoC' _ _) rfl ⟨_, setRow_at AA _, rfl⟩ (parQ_err HL.out (below_setRow (below_setRow (below_alloc' B3.out _) (Nat.le_of_lt hz) _) (Nat.le_refl _) _))
        | some c =>
          obtain ⟨sl, rfl, hsl, hsb⟩ := hc3 c hq
          have r3 : ((w3.alloc (.cells (cmB cm0 s0) 33)).setRow w3.heap.size (cmB c sl)).cell? ⟨w2.heap.size, 0, none⟩ = some (.bool false) := (blk_cell (setRow_ne (by omega) (alloc_at_lt HR3.out _) _) 0).trans (by rw [hq]; rfl)
          have HQ := hid hq
          have HSL := hid hsl
          have C3 : ((w3.alloc (.cells (cmB cm0 s0) 33)).setRow w3.heap.size (cmB c sl)).heap[w3.heap.size]? = some (.cells (cmB c sl) 33 (0, 0)) := setRow_at hA3 _
          have HCS := hid (cmd_small (N := 512) (fun x hx => by have h1 := HSM2.out.1; have := cost_mem hx; omega) (by have h1 := HSM2.out.1; have := cost_len (a :: t); omega) hq)
          have HSB := hid hsb
          clear hq hc3 hsl hv3 A3 hsb
          have HBX : Hid (Below w3.heap.size w3 ((w3.alloc (.cells (cmB cm0 s0) 33)).setRow w3.heap.size (cmB c sl))) := below_setRow (below_alloc (Below.refl _ _) _) (Nat.le_refl _) _
          have HFO := hid (oformed_any (cml_of HCS.out (HSL.out.below HBX.out)))
          go_wp2_with (first | (refine wpList_store_row rfl 33 (.tmp 10) (.tmp 57) rfl w3.heap.size (cmB c sl) (by simp [Act.eval]) (by simp [Act.eval]) _ _ hA3 (infoC' _ _) (cmB_sizes _ _ _ _) (cmB_ones _ _) ?_) | (refine wpList_load_row rfl 33 (.tmp 10) rfl w3.heap.size (by simp [Act.eval, Act.put]) _ _ _ _ C3 Tryz.underlying33 rfl (infoC' _ _) ?_) | (go_at_call 15; refine HFO.out.mono ?_; rintro e w4 ⟨rfl, hb4⟩; have C4 := (hb4.block _ (lt_of_at C3)).trans C3; have A4 := (hb4.block w.heap.size (Nat.lt_of_lt_of_le hz HBX.out.size)).trans ((HBX.out.block _ hz).trans HW3.out); have HB4 := hid (B3.out.trans ((HBX.out.trans (hb4.mono HBX.out.size)).mono B3.out.size)); have HX4 := hid (HBX.out.trans (hb4.mono HBX.out.size)); clear hb4) | (refine wpList_store_row rfl 33 (.tmp 2) (.tmp 66) rfl w.heap.size (cmB cm0 s0) (by simp [Act.eval, Act.put]) (by simp [Act.eval, Act.put]) _ _ A4 (infoC' _ _) (cmB_sizes _ _ _ _) (cmB_ones _ _) ?_) | (refine wpList_load_row rfl 33 (.tmp 10) rfl w3.heap.size (by simp [Act.eval, Act.put]) _ _ _ _ C4 Tryz.underlying33 rfl (infoC' _ _) ?_) | (refine wpList_store_row rfl 33 (.tmp 2) (.tmp 67) rfl w.heap.size (cmB c sl) (by simp [Act.eval, Act.put]) (by simp [Act.eval, Act.put]) _ _ A4 (infoC' _ _) (cmB_sizes _ _ _ _) (cmB_ones _ _) ?_))
          · have hf : ¬ formB c = true := by first | assumption | (have hx := ‹(!formB c) = true›; simpa using hx)
            have HL : Hid (lineP s = (cm0, 4)) := by unfold Hid; rw [line_form H5.out HE.out (by rw [← HWS.out]; exact HK.out.2) (by rw [← HWS.out, HK.out.1]; exact HQ.out), if_neg hf]
            refine ret_row2 rfl w.heap.size (cmB cm0 s0) 33 _ rfl Tryz.underlying33 rfl (infoC' _ _) rfl ⟨_, setRow_at A4 _, rfl⟩ (parQ_err HL.out (below_setRow HB4.out (Nat.le_refl _) _))
          · have hf : formB c = true := by first | assumption | (have hx := ‹(!formB c) = false›; simpa using hx)
            have HL : Hid (lineP s = (c, 0)) := by unfold Hid; rw [line_form H5.out HE.out (by rw [← HWS.out]; exact HK.out.2) (by rw [← HWS.out, HK.out.1]; exact HQ.out), if_pos hf]
            refine ret_row2 rfl w.heap.size (cmB c sl) 33 _ rfl Tryz.underlying33 rfl (infoC' _ _) rfl ⟨_, setRow_at A4 _, rfl⟩ (parQ_ok HL.out (below_setRow HB4.out (Nat.le_refl _) _) HSL.out HX4.out HSB.out HB2.out.size)
      have d4 : ((n : Int) != (cn : Int)) = true := by rw [bne_iff_ne]; exact d1
      by_cases d2 : (ck : Int) = 2
      · have d1' : ¬ n = cn := by omega
        by_cases d3 : (n : Int) < (cn : Int)
        · have d3' : n < cn := by omega
          have HL : Hid (lineP s = (cm0, 13)) := line_kind H5.out HE.out (by rw [← HWS.out]; exact kind_no (by rw [← HCN.out.1, ← HCN.out.2]; first | exact .inl (by omega) | (right; have h9 := HCN2.out; unfold Hid at h9; exact ⟨by omega, by omega⟩)))
          clear HROW2
          go_wp2_with (first | (refine wpList_store_row rfl 33 (.tmp 2) (.tmp 54) rfl w.heap.size (cmB cm0 s0) (by simp [Act.eval]) (by simp [Act.eval]) _ _ A2 (infoC' _ _) (cmB_sizes _ _ _ _) (cmB_ones _ _) ?_))
          refine ret_row2 rfl w.heap.size (cmB cm0 s0) 33 _ rfl Tryz.underlying33 rfl (infoC' _ _) rfl ⟨_, setRow_at A2 _, rfl⟩ (parQ_err HL.out (by have h0 := HB2.out; exact (by repeat (first | with_reducible assumption | with_reducible exact Below.refl _ _ | with_reducible refine Below.drew ?_ | with_reducible refine below_drewN ?_ _ | with_reducible refine Below.alloc ?_ (by first | omega | (simp; done) | (simp; omega)) _ | with_reducible refine Below.setCell ?_ (by first | omega | (simp; done) | (simp; omega)) _ | with_reducible refine below_setRow ?_ (by first | omega | (simp; done) | (simp; omega)) _))))
        · skip
          obtain rfl : ck = 2 := by omega
          have d3' : ¬ n < cn := by omega
          have d3'' : cn ≤ n := by omega
          clear d2
          have hkind : kindP (a :: t) = 2 := by rw [HCN.out.2]; exact kind_yes (by rw [← HCN.out.1]; omega) (by rw [← HCN.out.1, ← HCN.out.2]; have := HCN2.out; omega)
          have hk0 : kindP (a :: t) ≠ 0 := by rw [hkind, HCN.out.2]; exact cnt_pos (by rw [← HCN.out.1]; omega)
          have HK := hid (⟨hkind, hk0⟩ : kindP (a :: t) = 2 ∧ kindP (a :: t) ≠ 0)
          clear hkind hk0
          have HCOM : Hid (Calls Tryz.prog 25 #[.pointer (some ⟨w2.heap.size, 0, none⟩), .int .i64 2, .slice (some ⟨b, 0, none⟩) n cp] (w2.alloc (.cells #[.bool false] 63)) (ComQ w2.heap.size false 2 (a :: t) (w2.alloc (.cells #[.bool false] 63)))) := by
            obtain ⟨b', cap', e', hc', hw'⟩ := wds_of (w' := w2.alloc (.cells #[.bool false] 63)) (R := w2.heap.size) HROW2.out (by simp) HSM.out (below_alloc HB12.out _) HB12.out.size
            injection e' with e1 e2 e3
            injection e1 with e1
            injection e1 with e1
            subst e1 e3
            have := command_any (ws := a :: t) false (alloc_at w2 _) hw' HK.out.2 (by have := HCN2.out; have := HNB.out; rw [List.length_cons]; omega) hc'
            rw [HK.out.1, ← HNB.out.1] at this
            rw [show ((2 : Nat) : Int) = (2 : Int) from rfl] at this
            exact this
          go_wp2_with fail
          refine HCOM.out.mono ?_
          rintro e w3 ⟨v3, ⟨c3, s3, hv3⟩, rfl, hr3, hc3⟩
          have B3 := hid (below_rdr (below_alloc HB2.out (.cells #[.bool false] 63)) hr3 HB2.out.size)
          have A3 := hr3.blk (alloc_at_lt A2 (.cells #[.bool false] 63)) (by have := lt_of_at A2; omega)
          have R3 := hr3.1
          have HR3 := hid R3
          have lr3 : w2.heap.size < w3.heap.size := lt_of_at R3
          have HW3 := hid A3
          clear R3 hr3 HCOM
          have hz : w.heap.size < w3.heap.size := lt_of_at A3
          have hA3 : (w3.alloc (.cells (cmB cm0 s0) 33)).heap[w3.heap.size]? = some (.cells (cmB cm0 s0) 33 (0, 0)) := alloc_at _ _
          cases hq : cmdP 2 (a :: t) with
          | none =>
            subst hv3
            have r3 : ((w3.alloc (.cells (cmB cm0 s0) 33)).setRow w3.heap.size (cmB c3 s3)).cell? ⟨w2.heap.size, 0, none⟩ = some (.bool true) := (blk_cell (setRow_ne (by omega) (alloc_at_lt HR3.out _) _) 0).trans (by rw [hq]; rfl)
            have HL : Hid (lineP s = (cm0, 12)) := line_bad H5.out HE.out (by rw [← HWS.out]; exact HK.out.2) (by rw [← HWS.out, HK.out.1]; exact hq)
            have AA : ((w3.alloc (.cells (cmB cm0 s0) 33)).setRow w3.heap.size (cmB c3 s3)).heap[w.heap.size]? = some (.cells (cmB cm0 s0) 33 (0, 0)) := setRow_ne (by omega) (alloc_at_lt A3 _) _
            clear hq hc3 A3
            go_wp2_with (first | (refine wpList_store_row rfl 33 (.tmp 10) (.tmp 57) rfl w3.heap.size (cmB c3 s3) (by simp [Act.eval]) (by simp [Act.eval]) _ _ hA3 (infoC' _ _) (cmB_sizes _ _ _ _) (cmB_ones _ _) ?_) | (refine wpList_store_row rfl 33 (.tmp 2) (.tmp 61) rfl w.heap.size (cmB cm0 s0) (by simp [Act.eval, Act.put]) (by simp [Act.eval, Act.put]) _ _ AA (infoC' _ _) (cmB_sizes _ _ _ _) (cmB_ones _ _) ?_))
            refine ret_row2 rfl w.heap.size (cmB cm0 s0) 33 _ rfl Tryz.underlying33 rfl (infoC' _ _) rfl ⟨_, setRow_at AA _, rfl⟩ (parQ_err HL.out (below_setRow (below_setRow (below_alloc' B3.out _) (Nat.le_of_lt hz) _) (Nat.le_refl _) _))
          | some c =>
            obtain ⟨sl, rfl, hsl, hsb⟩ := hc3 c hq
            have r3 : ((w3.alloc (.cells (cmB cm0 s0) 33)).setRow w3.heap.size (cmB c sl)).cell? ⟨w2.heap.size, 0, none⟩ = some (.bool false) := (blk_cell (setRow_ne (by omega) (alloc_at_lt HR3.out _) _) 0).trans (by rw [hq]; rfl)
            have HQ := hid hq
            have HSL := hid hsl
            have C3 : ((w3.alloc (.cells (cmB cm0 s0) 33)).setRow w3.heap.size (cmB c sl)).heap[w3.heap.size]? = some (.cells (cmB c sl) 33 (0, 0)) := setRow_at hA3 _
            have HCS := hid (cmd_small (N := 512) (fun x hx => by have h1 := HSM2.out.1; have := cost_mem hx; omega) (by have h1 := HSM2.out.1; have := cost_len (a :: t); omega) hq)
            have HSB := hid hsb
            clear hq hc3 hsl hv3 A3 hsb
            have HBX : Hid (Below w3.heap.size w3 ((w3.alloc (.cells (cmB cm0 s0) 33)).setRow w3.heap.size (cmB c sl))) := below_setRow (below_alloc (Below.refl _ _) _) (Nat.le_refl _) _
            have HFO := hid (oformed_any (cml_of HCS.out (HSL.out.below HBX.out)))
            go_wp2_with (first | (refine wpList_store_row rfl 33 (.tmp 10) (.tmp 57) rfl w3.heap.size (cmB c sl) (by simp [Act.eval]) (by simp [Act.eval]) _ _ hA3 (infoC' _ _) (cmB_sizes _ _ _ _) (cmB_ones _ _) ?_) | (refine wpList_load_row rfl 33 (.tmp 10) rfl w3.heap.size (by simp [Act.eval, Act.put]) _ _ _ _ C3 Tryz.underlying33 rfl (infoC' _ _) ?_) | (go_at_call 15; refine HFO.out.mono ?_; rintro e w4 ⟨rfl, hb4⟩; have C4 := (hb4.block _ (lt_of_at C3)).trans C3; have A4 := (hb4.block w.heap.size (Nat.lt_of_lt_of_le hz HBX.out.size)).trans ((HBX.out.block _ hz).trans HW3.out); have HB4 := hid (B3.out.trans ((HBX.out.trans (hb4.mono HBX.out.size)).mono B3.out.size)); have HX4 := hid (HBX.out.trans (hb4.mono HBX.out.size)); clear hb4) | (refine wpList_store_row rfl 33 (.tmp 2) (.tmp 66) rfl w.heap.size (cmB cm0 s0) (by simp [Act.eval, Act.put]) (by simp [Act.eval, Act.put]) _ _ A4 (infoC' _ _) (cmB_sizes _ _ _ _) (cmB_ones _ _) ?_) | (refine wpList_load_row rfl 33 (.tmp 10) rfl w3.heap.size (by simp [Act.eval, Act.put]) _ _ _ _ C4 Tryz.underlying33 rfl (infoC' _ _) ?_) | (refine wpList_store_row rfl 33 (.tmp 2) (.tmp 67) rfl w.heap.size (cmB c sl) (by simp [Act.eval, Act.put]) (by simp [Act.eval, Act.put]) _ _ A4 (infoC' _ _) (cmB_sizes _ _ _ _) (cmB_ones _ _) ?_))
            · have hf : ¬ formB c = true := by first | assumption | (have hx := ‹(!formB c) = true›; simpa using hx)
              have HL : Hid (lineP s = (cm0, 4)) := by unfold Hid; rw [line_form H5.out HE.out (by rw [← HWS.out]; exact HK.out.2) (by rw [← HWS.out, HK.out.1]; exact HQ.out), if_neg hf]
              refine ret_row2 rfl w.heap.size (cmB cm0 s0) 33 _ rfl Tryz.underlying33 rfl (infoC' _ _) rfl ⟨_, setRow_at A4 _, rfl⟩ (parQ_err HL.out (below_setRow HB4.out (Nat.le_refl _) _))
            · have hf : formB c = true := by first | assumption | (have hx := ‹(!formB c) = false›; simpa using hx)
              have HL : Hid (lineP s = (c, 0)) := by unfold Hid; rw [line_form H5.out HE.out (by rw [← HWS.out]; exact HK.out.2) (by rw [← HWS.out, HK.out.1]; exact HQ.out), if_pos hf]
              refine ret_row2 rfl w.heap.size (cmB c sl) 33 _ rfl Tryz.underlying33 rfl (infoC' _ _) rfl ⟨_, setRow_at A4 _, rfl⟩ (parQ_ok HL.out (below_setRow HB4.out (Nat.le_refl _) _) HSL.out HX4.out HSB.out HB2.out.size)
      · skip
        have HL : Hid (lineP s = (cm0, 13)) := line_kind H5.out HE.out (by rw [← HWS.out]; exact kind_no (by rw [← HCN.out.1, ← HCN.out.2]; first | exact .inl (by omega) | (right; have h9 := HCN2.out; unfold Hid at h9; exact ⟨by omega, by omega⟩)))
        clear HROW2
        go_wp2_with (first | (refine wpList_store_row rfl 33 (.tmp 2) (.tmp 54) rfl w.heap.size (cmB cm0 s0) (by simp [Act.eval]) (by simp [Act.eval]) _ _ A2 (infoC' _ _) (cmB_sizes _ _ _ _) (cmB_ones _ _) ?_))
        refine ret_row2 rfl w.heap.size (cmB cm0 s0) 33 _ rfl Tryz.underlying33 rfl (infoC' _ _) rfl ⟨_, setRow_at A2 _, rfl⟩ (parQ_err HL.out (by have h0 := HB2.out; exact (by repeat (first | with_reducible assumption | with_reducible exact Below.refl _ _ | with_reducible refine Below.drew ?_ | with_reducible refine below_drewN ?_ _ | with_reducible refine Below.alloc ?_ (by first | omega | (simp; done) | (simp; omega)) _ | with_reducible refine Below.setCell ?_ (by first | omega | (simp; done) | (simp; omega)) _ | with_reducible refine below_setRow ?_ (by first | omega | (simp; done) | (simp; omega)) _))))
  · have HL := hid (line_words H5.out he)
    have hxi : ((wres s).2.2 != 0) = true := by rw [bne_iff_ne]; exact he
    go_wp2_with (first | (refine wpList_store_row rfl 33 (.tmp 2) (.tmp 23) rfl w.heap.size (cmB cm0 s0) (by simp [Act.eval]) (by simp [Act.eval]) _ _ A1 (infoC' _ _) (cmB_sizes _ _ _ _) (cmB_ones _ _) ?_))
    refine ret_row2 rfl w.heap.size (cmB cm0 s0) 33 _ rfl Tryz.underlying33 rfl (infoC' _ _) rfl ⟨_, setRow_at A1 _, rfl⟩ (parQ_err HL.out (Below.trans HB1.out (by repeat (first | with_reducible assumption | with_reducible exact Below.refl _ _ | with_reducible refine Below.drew ?_ | with_reducible refine below_drewN ?_ _ | with_reducible refine Below.alloc ?_ (by first | omega | (simp; done) | (simp; omega)) _ | with_reducible refine Below.setCell ?_ (by first | omega | (simp; done) | (simp; omega)) _ | with_reducible refine below_setRow ?_ (by first | omega | (simp; done) | (simp; omega)) _))))
end
end Go.Proofs.YtidcbcljeofooaaGreatDoor
