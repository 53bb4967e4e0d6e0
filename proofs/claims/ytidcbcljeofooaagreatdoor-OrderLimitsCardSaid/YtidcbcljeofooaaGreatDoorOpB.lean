/- Chapter 20: the program's Print. -/
import Derived.Test.YtidcbcljeofooaaGreatDoorOpA
import Derived.Test.YtidcbcljeofooaaGreatDoorOrMb
namespace Go.Proofs.YtidcbcljeofooaaGreatDoor
open Go.RowKit
theorem wl_cells {W : World} {g : Nat} {ws : List ByteArray} {f : Nat × Nat} (h : W.heap[g]? = some (.cells (ws.map Value.string).toArray 9 f)) : ∀ (j : Nat) x, ws[j]? = some x → W.cell? ⟨g, 0 + j, none⟩ = some (.string x) := fun j x hx => by
  rw [Nat.zero_add, blk_cell h, List.getElem?_toArray, List.getElem?_map, hx]; rfl
theorem sl_tq {W : World} {g : Nat} {c : Cm} {s : Sls} {T : TypeId} (h : W.heap[g]? = some (.cells (cmB c s) T (0, 0))) : SlG 1 fZ W (some ⟨g, 3, none⟩) 4 [c.tq.1, c.tq.2.1, c.tq.2.2.1, c.tq.2.2.2] := by
  refine ⟨rfl, .inr ⟨g, 3, rfl, lt_of_at h, fun i x hi c' hc => ?_⟩⟩
  obtain rfl : c' = 0 := by omega
  rw [Nat.mul_one, Nat.add_zero, cmB_cell h]
  match i, hi with
  | 0, hi => injection hi with hi; subst hi; rfl
  | 1, hi => injection hi with hi; subst hi; rfl
  | 2, hi => injection hi with hi; subst hi; rfl
  | 3, hi => injection hi with hi; subst hi; rfl
theorem sl_vec {W : World} {g : Nat} {c : Cm} {s : Sls} {T : TypeId} (h : W.heap[g]? = some (.cells (cmB c s) T (0, 0))) : SlG 1 fZ W (some ⟨g, 20, none⟩) 4 [c.vec.1, c.vec.2.1, c.vec.2.2.1, c.vec.2.2.2] := by
  refine ⟨rfl, .inr ⟨g, 20, rfl, lt_of_at h, fun i x hi c' hc => ?_⟩⟩
  obtain rfl : c' = 0 := by omega
  rw [Nat.mul_one, Nat.add_zero, cmB_cell h]
  match i, hi with
  | 0, hi => injection hi with hi; subst hi; rfl
  | 1, hi => injection hi with hi; subst hi; rfl
  | 2, hi => injection hi with hi; subst hi; rfl
  | 3, hi => injection hi with hi; subst hi; rfl
theorem okV_rng {v : V} (h : okV v = true) : ∀ z ∈ [v.1, v.2.1, v.2.2.1, v.2.2.2], -9223372036854775808 ≤ z ∧ z ≤ 9223372036854775807 := by
  rw [okV_iff] at h
  intro z hz
  simp only [List.mem_cons, List.not_mem_nil, or_false] at hz
  rcases hz with rfl | rfl | rfl | rfl <;> omega
theorem print_no {c : Cm} (h : formB c = false) : printP c = ([], 4) := by unfold printP; rw [h]; rfl
theorem print_long {c : Cm} {ws : List ByteArray} (h : formB c = true) (hw : cmdT c = ws) (hl : 512 < (jn ws).length) : printP c = ([], 1) := by unfold printP; rw [if_pos h, hw, if_pos hl]
theorem print_ok {c : Cm} {ws : List ByteArray} (h : formB c = true) (hw : cmdT c = ws) (hl : ¬ 512 < (jn ws).length) : printP c = (jn ws, 0) := by unfold printP; rw [if_pos h, hw, if_neg hl]
theorem sB_nil : sB [] = ⟨#[]⟩ := rfl
/-- What Print answers. -/
def PrQ (c : Cm) (w : World) (e : Ending) (w' : World) : Prop := e = .returned (.tuple #[.string (sB (printP c).1), .int .i64 (printP c).2]) ∧ Below w.heap.size w w'
theorem vec_len {v : V} (h : okV v = true) : (vecT v).length ≤ 100 := by
  unfold vecT
  have h1 : ∀ x ∈ [dgT v.1, dgT v.2.1, dgT v.2.2.1, dgT v.2.2.2], x.length ≤ 21 := by
    have := okV_rng h
    intro x hx
    simp only [List.mem_cons, List.not_mem_nil, or_false] at hx
    rcases hx with rfl | rfl | rfl | rfl
    · exact dg_len _ (this v.1 (by simp)).1 (this v.1 (by simp)).2
    · exact dg_len _ (this v.2.1 (by simp)).1 (this v.2.1 (by simp)).2
    · exact dg_len _ (this v.2.2.1 (by simp)).1 (this v.2.2.1 (by simp)).2
    · exact dg_len _ (this v.2.2.2 (by simp)).1 (this v.2.2.2 (by simp)).2
  have := join_small (sep := [58]) h1
  simp only [List.length_cons, List.length_nil] at this
  omega
theorem jn_len {N : Nat} : ∀ {ws : List ByteArray}, (∀ x ∈ ws, x.size ≤ N) → (jn ws).length ≤ (N + 1) * ws.length := by
  intro ws h
  have h1 := jn_cost ws
  have h2 : cost ws ≤ (N + 1) * ws.length := by
    induction ws with
    | nil => exact Nat.zero_le _
    | cons a t ih =>
      rw [cost_cons, List.length_cons, Nat.mul_succ]
      have := ih (fun x hx => h x (by simp [hx])) (jn_cost t)
      have := h a (by simp)
      omega
  omega
/-- Bounds of what is formed. -/
structure Fbd (c : Cm) : Prop where
  num : c.kind = 3 ∨ c.kind = 4 ∨ c.kind = 7 ∨ c.kind = 8 → 1 ≤ c.num ∧ c.num ≤ 100
  ep : c.kind = 5 ∨ c.kind = 6 ∨ c.kind = 7 ∨ c.kind = 8 → 1 ≤ c.ep ∧ c.ep ≤ 2147483647 ∧ nameB c.node = true
  att : c.kind = 7 ∨ c.kind = 8 → 1 ≤ c.att ∧ c.att ≤ 2147483647
  vec : c.kind = 5 → okV c.vec = true
  ten : c.kind = 1 → nameB c.tn = true ∧ (1 ≤ c.tw ∧ c.tw ≤ 1000) ∧ okV c.tq = true
  job : c.kind = 2 → JbF c.job
theorem Fbd.of {c : Cm} (h : formB c = true) : Fbd c := by
  obtain ⟨-, h⟩ := and_t h
  unfold rowsB at h
  refine ⟨fun q => ?_, fun q => ?_, fun q => ?_, fun q => ?_, fun q => ?_, fun q => ?_⟩
  · rcases q with q | q | q | q <;> simp only [q] at h <;> simp [idB, epB] at h <;> omega
  · rcases q with q | q | q | q <;> simp only [q] at h <;> simp [idB, epB] at h <;> refine ⟨by omega, by omega, ?_⟩ <;> simp [h]
  · rcases q with q | q <;> simp only [q] at h <;> simp [idB, epB] at h <;> omega
  · simp only [q] at h; simp at h; simp [h]
  · simp only [q] at h; simp [tenB] at h; refine ⟨?_, ?_, ?_⟩ <;> simp [h]
  · simp only [q] at h; simp at h; exact (jobB_iff _).1 h.1
theorem joined_vec {g o : Nat} {v : V} (w : World) (h : SlG 1 fZ w (some ⟨g, o, none⟩) 4 [v.1, v.2.1, v.2.2.1, v.2.2.2]) (hv : okV v = true) (hT : Tb w) : Calls Tryz.prog 31 #[.slice (some ⟨g, o, none⟩) 4 4, .string ⟨#[58]⟩] w fun e w' => e = .returned (.string (sB (vecT v))) ∧ Below w.heap.size w w' :=
  joined_any w h (by omega) (by decide) (okV_rng hv) hT
section
attribute [local go_sem ↓] zeroCmd buildCmd0
set_option maxHeartbeats 8000000 in
set_option maxRecDepth 20000 in
theorem print_3 {w : World} {c : Cm} {s : Sls} (hk : c.kind = 3) (hf : formB c = true) (h : CmL w c s) (hT : Tb w) : Calls Tryz.prog 13 #[.agg (cmB c s)] w (PrQ c w) := by
  have HF := hid hf
  have HT := hid hT
  have HFO := hid (fun W (hb : Below w.heap.size w W) => oformed_any (h.below hb))
  have HC := hid h
  have HFB := hid (Fbd.of hf)
  have hne := cmB_ne c s
  clear h hT hf
  have hA : (w.alloc (.cells (cmB c s) 33)).heap[w.heap.size]? = some (.cells (cmB c s) 33 (0, 0)) := alloc_at _ _
  go_enter Tryz.func13, Tryz.ntmps13
  go_wp2_with (first | (refine wpList_load_row rfl 33 (.tmp 1) rfl w.heap.size (by simp [Act.eval, Act.put]) _ _ _ _ hA Tryz.underlying33 rfl (infoC' _ _) ?_))
  refine (HFO.out _ (by repeat (first | with_reducible assumption | with_reducible exact Below.refl _ _ | with_reducible refine Below.drew ?_ | with_reducible refine below_drewN ?_ _ | with_reducible refine below_alloc ?_ _ | with_reducible refine Below.alloc ?_ (by first | omega | (simp; done) | (simp; omega)) _ | with_reducible refine Below.setCell ?_ (by first | omega | (simp; done) | (simp; omega)) _ | with_reducible refine below_setRow ?_ (by first | omega | (simp; done) | (simp; omega)) _))).mono ?_
  rintro e w2 ⟨rfl, hb2⟩
  rw [HF.out]
  have A2 := (hb2.block _ (by simp)).trans hA
  have E2 := hid (below_one hb2)
  have T2 := hid (HT.out.below E2.out)
  have k0 : w2.cell? ⟨w.heap.size, 0, none⟩ = some (.int .i64 3) := (cmB_cell A2 0).trans (by rw [← hk]; rfl)
  have lw := lt_of_at A2
  clear hA HFO hb2
  have y0 : w2.cell? ⟨w.heap.size, 24, none⟩ = some (.int .i64 c.num) := (cmB_cell A2 24).trans (cm_at24 _ _)
  obtain ⟨x, hx⟩ : ∃ x, x = c.num := ⟨_, rfl⟩
  rw [← hx] at y0
  have hb := HFB.out.num (by omega)
  rw [← hx] at hb
  have HD := hid (digits_any x w2 (by omega) (by omega) T2.out)
  have HX := hid hx
  clear hx hb
  go_wp2_with fail
  refine HD.out.mono ?_
  rintro e w4 ⟨rfl, hb4⟩
  have E4 := hid (E2.out.trans (hb4.mono E2.out.size))
  clear hb4 HD y0
  have hcw : cmdT c = [sB [99, 97, 110, 99, 101, 108], sB (dgT x)] := by unfold cmdT; simp only [hk]; rw [HX.out]; rfl
  have hsm : ∀ y ∈ ([sB [99, 97, 110, 99, 101, 108], sB (dgT x)] : List ByteArray), y.size ≤ 1000 := by
      intro y hy
      simp only [List.mem_cons, List.not_mem_nil, or_false] at hy
      rcases hy with rfl | rfl
      · decide
      · rw [sB_size]; have hb := HFB.out.num (by omega); rw [← HX.out] at hb; have := dg_len x (by omega) (by omega); omega
  have hjl := jn_len hsm
  have HTO := hid (told_any (b := w4.heap.size) (off := 0) (cap := 2) (ws := [sB [99, 97, 110, 99, 101, 108], sB (dgT x)]) (w4.alloc (.cells ([sB [99, 97, 110, 99, 101, 108], sB (dgT x)].map Value.string).toArray 9)) (wl_cells (alloc_at _ _)) (by simp) (by simp) (by simp) (by simp only [List.length_cons, List.length_nil] at hjl; omega))
  obtain ⟨L, hL⟩ : ∃ L, L = jn [sB [99, 97, 110, 99, 101, 108], sB (dgT x)] := ⟨_, rfl⟩
  rw [← hL] at HTO
  have HLL : Hid (printP c = if 512 < L.length then ([], 1) else (L, 0)) := by
    unfold Hid
    rw [hL]
    split
    · rename_i q; exact print_long HF.out hcw q
    · rename_i q; exact print_ok HF.out hcw q
  have HEE : Hid (Below w.heap.size w (w4.alloc (.cells ([sB [99, 97, 110, 99, 101, 108], sB (dgT x)].map Value.string).toArray 9))) := below_alloc' E4.out _ (Nat.le_refl _)
  simp only [List.map_cons, List.map_nil, List.length_cons, List.length_nil] at HTO HEE
  clear hcw hsm hjl hL
  go_wp2_with fail
  refine HTO.out.mono ?_
  rintro e w9 ⟨rfl, hb9⟩
  have E9 := hid (HEE.out.trans (hb9.mono HEE.out.size))
  clear hb9 HTO
  have hsz : (sB L).size = L.length := sB_size L
  by_cases hq : 512 < L.length
  · have hqi : (512 : Int) < ((sB L).size : Int) := by rw [hsz]; omega
    have HP : Hid (printP c = ([], 1)) := by unfold Hid; rw [HLL.out, if_pos hq]
    clear hq hsz
    go_wp2_with fail
    go_ret2
    exact ⟨by rw [HP.out]; rfl, E9.out⟩
  · have hqi : ¬ (512 : Int) < ((sB L).size : Int) := by rw [hsz]; omega
    have HP : Hid (printP c = (L, 0)) := by unfold Hid; rw [HLL.out, if_neg hq]
    clear hq hsz
    go_wp2_with fail
    go_ret2
    exact ⟨by rw [HP.out]; rfl, E9.out⟩
set_option maxHeartbeats 8000000 in
set_option maxRecDepth 20000 in
theorem print_4 {w : World} {c : Cm} {s : Sls} (hk : c.kind = 4) (hf : formB c = true) (h : CmL w c s) (hT : Tb w) : Calls Tryz.prog 13 #[.agg (cmB c s)] w (PrQ c w) := by
  have HF := hid hf
  have HT := hid hT
  have HFO := hid (fun W (hb : Below w.heap.size w W) => oformed_any (h.below hb))
  have HC := hid h
  have HFB := hid (Fbd.of hf)
  have hne := cmB_ne c s
  clear h hT hf
  have hA : (w.alloc (.cells (cmB c s) 33)).heap[w.heap.size]? = some (.cells (cmB c s) 33 (0, 0)) := alloc_at _ _
  go_enter Tryz.func13, Tryz.ntmps13
  go_wp2_with (first | (refine wpList_load_row rfl 33 (.tmp 1) rfl w.heap.size (by simp [Act.eval, Act.put]) _ _ _ _ hA Tryz.underlying33 rfl (infoC' _ _) ?_))
  refine (HFO.out _ (by repeat (first | with_reducible assumption | with_reducible exact Below.refl _ _ | with_reducible refine Below.drew ?_ | with_reducible refine below_drewN ?_ _ | with_reducible refine below_alloc ?_ _ | with_reducible refine Below.alloc ?_ (by first | omega | (simp; done) | (simp; omega)) _ | with_reducible refine Below.setCell ?_ (by first | omega | (simp; done) | (simp; omega)) _ | with_reducible refine below_setRow ?_ (by first | omega | (simp; done) | (simp; omega)) _))).mono ?_
  rintro e w2 ⟨rfl, hb2⟩
  rw [HF.out]
  have A2 := (hb2.block _ (by simp)).trans hA
  have E2 := hid (below_one hb2)
  have T2 := hid (HT.out.below E2.out)
  have k0 : w2.cell? ⟨w.heap.size, 0, none⟩ = some (.int .i64 4) := (cmB_cell A2 0).trans (by rw [← hk]; rfl)
  have lw := lt_of_at A2
  clear hA HFO hb2
  have y0 : w2.cell? ⟨w.heap.size, 24, none⟩ = some (.int .i64 c.num) := (cmB_cell A2 24).trans (cm_at24 _ _)
  obtain ⟨x, hx⟩ : ∃ x, x = c.num := ⟨_, rfl⟩
  rw [← hx] at y0
  have hb := HFB.out.num (by omega)
  rw [← hx] at hb
  have HD := hid (digits_any x w2 (by omega) (by omega) T2.out)
  have HX := hid hx
  clear hx hb
  go_wp2_with fail
  refine HD.out.mono ?_
  rintro e w4 ⟨rfl, hb4⟩
  have E4 := hid (E2.out.trans (hb4.mono E2.out.size))
  clear hb4 HD y0
  have hcw : cmdT c = [sB [113, 117, 101, 114, 121], sB (dgT x)] := by unfold cmdT; simp only [hk]; rw [HX.out]; rfl
  have hsm : ∀ y ∈ ([sB [113, 117, 101, 114, 121], sB (dgT x)] : List ByteArray), y.size ≤ 1000 := by
      intro y hy
      simp only [List.mem_cons, List.not_mem_nil, or_false] at hy
      rcases hy with rfl | rfl
      · decide
      · rw [sB_size]; have hb := HFB.out.num (by omega); rw [← HX.out] at hb; have := dg_len x (by omega) (by omega); omega
  have hjl := jn_len hsm
  have HTO := hid (told_any (b := w4.heap.size) (off := 0) (cap := 2) (ws := [sB [113, 117, 101, 114, 121], sB (dgT x)]) (w4.alloc (.cells ([sB [113, 117, 101, 114, 121], sB (dgT x)].map Value.string).toArray 9)) (wl_cells (alloc_at _ _)) (by simp) (by simp) (by simp) (by simp only [List.length_cons, List.length_nil] at hjl; omega))
  obtain ⟨L, hL⟩ : ∃ L, L = jn [sB [113, 117, 101, 114, 121], sB (dgT x)] := ⟨_, rfl⟩
  rw [← hL] at HTO
  have HLL : Hid (printP c = if 512 < L.length then ([], 1) else (L, 0)) := by
    unfold Hid
    rw [hL]
    split
    · rename_i q; exact print_long HF.out hcw q
    · rename_i q; exact print_ok HF.out hcw q
  have HEE : Hid (Below w.heap.size w (w4.alloc (.cells ([sB [113, 117, 101, 114, 121], sB (dgT x)].map Value.string).toArray 9))) := below_alloc' E4.out _ (Nat.le_refl _)
  simp only [List.map_cons, List.map_nil, List.length_cons, List.length_nil] at HTO HEE
  clear hcw hsm hjl hL
  go_wp2_with fail
  refine HTO.out.mono ?_
  rintro e w9 ⟨rfl, hb9⟩
  have E9 := hid (HEE.out.trans (hb9.mono HEE.out.size))
  clear hb9 HTO
  have hsz : (sB L).size = L.length := sB_size L
  by_cases hq : 512 < L.length
  · have hqi : (512 : Int) < ((sB L).size : Int) := by rw [hsz]; omega
    have HP : Hid (printP c = ([], 1)) := by unfold Hid; rw [HLL.out, if_pos hq]
    clear hq hsz
    go_wp2_with fail
    go_ret2
    exact ⟨by rw [HP.out]; rfl, E9.out⟩
  · have hqi : ¬ (512 : Int) < ((sB L).size : Int) := by rw [hsz]; omega
    have HP : Hid (printP c = (L, 0)) := by unfold Hid; rw [HLL.out, if_neg hq]
    clear hq hsz
    go_wp2_with fail
    go_ret2
    exact ⟨by rw [HP.out]; rfl, E9.out⟩
set_option maxHeartbeats 8000000 in
set_option maxRecDepth 20000 in
theorem print_9 {w : World} {c : Cm} {s : Sls} (hk : c.kind = 9) (hf : formB c = true) (h : CmL w c s) (hT : Tb w) : Calls Tryz.prog 13 #[.agg (cmB c s)] w (PrQ c w) := by
  have HF := hid hf
  have HT := hid hT
  have HFO := hid (fun W (hb : Below w.heap.size w W) => oformed_any (h.below hb))
  have HC := hid h
  have HFB := hid (Fbd.of hf)
  have hne := cmB_ne c s
  clear h hT hf
  have hA : (w.alloc (.cells (cmB c s) 33)).heap[w.heap.size]? = some (.cells (cmB c s) 33 (0, 0)) := alloc_at _ _
  go_enter Tryz.func13, Tryz.ntmps13
  go_wp2_with (first | (refine wpList_load_row rfl 33 (.tmp 1) rfl w.heap.size (by simp [Act.eval, Act.put]) _ _ _ _ hA Tryz.underlying33 rfl (infoC' _ _) ?_))
  refine (HFO.out _ (by repeat (first | with_reducible assumption | with_reducible exact Below.refl _ _ | with_reducible refine Below.drew ?_ | with_reducible refine below_drewN ?_ _ | with_reducible refine below_alloc ?_ _ | with_reducible refine Below.alloc ?_ (by first | omega | (simp; done) | (simp; omega)) _ | with_reducible refine Below.setCell ?_ (by first | omega | (simp; done) | (simp; omega)) _ | with_reducible refine below_setRow ?_ (by first | omega | (simp; done) | (simp; omega)) _))).mono ?_
  rintro e w2 ⟨rfl, hb2⟩
  rw [HF.out]
  have A2 := (hb2.block _ (by simp)).trans hA
  have E2 := hid (below_one hb2)
  have T2 := hid (HT.out.below E2.out)
  have k0 : w2.cell? ⟨w.heap.size, 0, none⟩ = some (.int .i64 9) := (cmB_cell A2 0).trans (by rw [← hk]; rfl)
  have lw := lt_of_at A2
  clear hA HFO hb2
  have hcw : cmdT c = [sB [116, 105, 99, 107]] := by unfold cmdT; simp only [hk]; rfl
  have hsm : ∀ y ∈ ([sB [116, 105, 99, 107]] : List ByteArray), y.size ≤ 1000 := by
      intro y hy
      simp only [List.mem_cons, List.not_mem_nil, or_false] at hy
      subst hy; decide
  have hjl := jn_len hsm
  have HTO := hid (told_any (b := w2.heap.size) (off := 0) (cap := 1) (ws := [sB [116, 105, 99, 107]]) (w2.alloc (.cells ([sB [116, 105, 99, 107]].map Value.string).toArray 9)) (wl_cells (alloc_at _ _)) (by simp) (by simp) (by simp) (by simp only [List.length_cons, List.length_nil] at hjl; omega))
  obtain ⟨L, hL⟩ : ∃ L, L = jn [sB [116, 105, 99, 107]] := ⟨_, rfl⟩
  rw [← hL] at HTO
  have HLL : Hid (printP c = if 512 < L.length then ([], 1) else (L, 0)) := by
    unfold Hid
    rw [hL]
    split
    · rename_i q; exact print_long HF.out hcw q
    · rename_i q; exact print_ok HF.out hcw q
  have HEE : Hid (Below w.heap.size w (w2.alloc (.cells ([sB [116, 105, 99, 107]].map Value.string).toArray 9))) := below_alloc' E2.out _ (Nat.le_refl _)
  simp only [List.map_cons, List.map_nil, List.length_cons, List.length_nil] at HTO HEE
  clear hcw hsm hjl hL
  go_wp2_with fail
  refine HTO.out.mono ?_
  rintro e w9 ⟨rfl, hb9⟩
  have E9 := hid (HEE.out.trans (hb9.mono HEE.out.size))
  clear hb9 HTO
  have hsz : (sB L).size = L.length := sB_size L
  by_cases hq : 512 < L.length
  · have hqi : (512 : Int) < ((sB L).size : Int) := by rw [hsz]; omega
    have HP : Hid (printP c = ([], 1)) := by unfold Hid; rw [HLL.out, if_pos hq]
    clear hq hsz
    go_wp2_with fail
    go_ret2
    exact ⟨by rw [HP.out]; rfl, E9.out⟩
  · have hqi : ¬ (512 : Int) < ((sB L).size : Int) := by rw [hsz]; omega
    have HP : Hid (printP c = (L, 0)) := by unfold Hid; rw [HLL.out, if_neg hq]
    clear hq hsz
    go_wp2_with fail
    go_ret2
    exact ⟨by rw [HP.out]; rfl, E9.out⟩
set_option maxHeartbeats 8000000 in
set_option maxRecDepth 20000 in
theorem print_10 {w : World} {c : Cm} {s : Sls} (hk : c.kind = 10) (hf : formB c = true) (h : CmL w c s) (hT : Tb w) : Calls Tryz.prog 13 #[.agg (cmB c s)] w (PrQ c w) := by
  have HF := hid hf
  have HT := hid hT
  have HFO := hid (fun W (hb : Below w.heap.size w W) => oformed_any (h.below hb))
  have HC := hid h
  have HFB := hid (Fbd.of hf)
  have hne := cmB_ne c s
  clear h hT hf
  have hA : (w.alloc (.cells (cmB c s) 33)).heap[w.heap.size]? = some (.cells (cmB c s) 33 (0, 0)) := alloc_at _ _
  go_enter Tryz.func13, Tryz.ntmps13
  go_wp2_with (first | (refine wpList_load_row rfl 33 (.tmp 1) rfl w.heap.size (by simp [Act.eval, Act.put]) _ _ _ _ hA Tryz.underlying33 rfl (infoC' _ _) ?_))
  refine (HFO.out _ (by repeat (first | with_reducible assumption | with_reducible exact Below.refl _ _ | with_reducible refine Below.drew ?_ | with_reducible refine below_drewN ?_ _ | with_reducible refine below_alloc ?_ _ | with_reducible refine Below.alloc ?_ (by first | omega | (simp; done) | (simp; omega)) _ | with_reducible refine Below.setCell ?_ (by first | omega | (simp; done) | (simp; omega)) _ | with_reducible refine below_setRow ?_ (by first | omega | (simp; done) | (simp; omega)) _))).mono ?_
  rintro e w2 ⟨rfl, hb2⟩
  rw [HF.out]
  have A2 := (hb2.block _ (by simp)).trans hA
  have E2 := hid (below_one hb2)
  have T2 := hid (HT.out.below E2.out)
  have k0 : w2.cell? ⟨w.heap.size, 0, none⟩ = some (.int .i64 10) := (cmB_cell A2 0).trans (by rw [← hk]; rfl)
  have lw := lt_of_at A2
  clear hA HFO hb2
  have hcw : cmdT c = [sB [110, 111, 100, 101, 115]] := by unfold cmdT; simp only [hk]; rfl
  have hsm : ∀ y ∈ ([sB [110, 111, 100, 101, 115]] : List ByteArray), y.size ≤ 1000 := by
      intro y hy
      simp only [List.mem_cons, List.not_mem_nil, or_false] at hy
      subst hy; decide
  have hjl := jn_len hsm
  have HTO := hid (told_any (b := w2.heap.size) (off := 0) (cap := 1) (ws := [sB [110, 111, 100, 101, 115]]) (w2.alloc (.cells ([sB [110, 111, 100, 101, 115]].map Value.string).toArray 9)) (wl_cells (alloc_at _ _)) (by simp) (by simp) (by simp) (by simp only [List.length_cons, List.length_nil] at hjl; omega))
  obtain ⟨L, hL⟩ : ∃ L, L = jn [sB [110, 111, 100, 101, 115]] := ⟨_, rfl⟩
  rw [← hL] at HTO
  have HLL : Hid (printP c = if 512 < L.length then ([], 1) else (L, 0)) := by
    unfold Hid
    rw [hL]
    split
    · rename_i q; exact print_long HF.out hcw q
    · rename_i q; exact print_ok HF.out hcw q
  have HEE : Hid (Below w.heap.size w (w2.alloc (.cells ([sB [110, 111, 100, 101, 115]].map Value.string).toArray 9))) := below_alloc' E2.out _ (Nat.le_refl _)
  simp only [List.map_cons, List.map_nil, List.length_cons, List.length_nil] at HTO HEE
  clear hcw hsm hjl hL
  go_wp2_with fail
  refine HTO.out.mono ?_
  rintro e w9 ⟨rfl, hb9⟩
  have E9 := hid (HEE.out.trans (hb9.mono HEE.out.size))
  clear hb9 HTO
  have hsz : (sB L).size = L.length := sB_size L
  by_cases hq : 512 < L.length
  · have hqi : (512 : Int) < ((sB L).size : Int) := by rw [hsz]; omega
    have HP : Hid (printP c = ([], 1)) := by unfold Hid; rw [HLL.out, if_pos hq]
    clear hq hsz
    go_wp2_with fail
    go_ret2
    exact ⟨by rw [HP.out]; rfl, E9.out⟩
  · have hqi : ¬ (512 : Int) < ((sB L).size : Int) := by rw [hsz]; omega
    have HP : Hid (printP c = (L, 0)) := by unfold Hid; rw [HLL.out, if_neg hq]
    clear hq hsz
    go_wp2_with fail
    go_ret2
    exact ⟨by rw [HP.out]; rfl, E9.out⟩
set_option maxHeartbeats 8000000 in
set_option maxRecDepth 20000 in
theorem print_6 {w : World} {c : Cm} {s : Sls} (hk : c.kind = 6) (hf : formB c = true) (h : CmL w c s) (hT : Tb w) : Calls Tryz.prog 13 #[.agg (cmB c s)] w (PrQ c w) := by
  have HF := hid hf
  have HT := hid hT
  have HFO := hid (fun W (hb : Below w.heap.size w W) => oformed_any (h.below hb))
  have HC := hid h
  have HFB := hid (Fbd.of hf)
  have hne := cmB_ne c s
  clear h hT hf
  have hA : (w.alloc (.cells (cmB c s) 33)).heap[w.heap.size]? = some (.cells (cmB c s) 33 (0, 0)) := alloc_at _ _
  go_enter Tryz.func13, Tryz.ntmps13
  go_wp2_with (first | (refine wpList_load_row rfl 33 (.tmp 1) rfl w.heap.size (by simp [Act.eval, Act.put]) _ _ _ _ hA Tryz.underlying33 rfl (infoC' _ _) ?_))
  refine (HFO.out _ (by repeat (first | with_reducible assumption | with_reducible exact Below.refl _ _ | with_reducible refine Below.drew ?_ | with_reducible refine below_drewN ?_ _ | with_reducible refine below_alloc ?_ _ | with_reducible refine Below.alloc ?_ (by first | omega | (simp; done) | (simp; omega)) _ | with_reducible refine Below.setCell ?_ (by first | omega | (simp; done) | (simp; omega)) _ | with_reducible refine below_setRow ?_ (by first | omega | (simp; done) | (simp; omega)) _))).mono ?_
  rintro e w2 ⟨rfl, hb2⟩
  rw [HF.out]
  have A2 := (hb2.block _ (by simp)).trans hA
  have E2 := hid (below_one hb2)
  have T2 := hid (HT.out.below E2.out)
  have k0 : w2.cell? ⟨w.heap.size, 0, none⟩ = some (.int .i64 6) := (cmB_cell A2 0).trans (by rw [← hk]; rfl)
  have lw := lt_of_at A2
  clear hA HFO hb2
  obtain ⟨xn, hxn⟩ : ∃ x, x = c.node := ⟨_, rfl⟩
  have Hxn := hid hxn
  obtain ⟨xe, hxe⟩ : ∃ x, x = c.ep := ⟨_, rfl⟩
  have Hxe := hid hxe
  have HKW : Hid (∀ X, Below w2.heap.size w2 X → X.cell? ⟨w.heap.size, 18, none⟩ = some (.string xn) ∧ X.cell? ⟨w.heap.size, 19, none⟩ = some (.int .i64 xe)) := fun X hb => ⟨(hb.cell (p := ⟨w.heap.size, 18, none⟩) lw).trans ((cmB_cell A2 18).trans (by rw [hxn]; exact cm_at18 _ _)), (hb.cell (p := ⟨w.heap.size, 19, none⟩) lw).trans ((cmB_cell A2 19).trans (by rw [hxe]; exact cm_at19 _ _))⟩
  have bxn : xn.size ≤ 64 := by rw [hxn]; exact name_size (HFB.out.ep (by omega)).2.2
  have bxe : 1 ≤ xe ∧ xe ≤ 2147483647 := by have := HFB.out.ep (by omega); rw [hxe]; exact ⟨this.1, this.2.1⟩
  have D0 : Hid (Below w2.heap.size w2 w2.drew) := (Below.refl _ _).drew
  obtain ⟨l18, l19⟩ := HKW.out _ (Below.refl _ _)
  obtain ⟨ld18, ld19⟩ := HKW.out _ D0.out
  clear hxn hxe 
  go_upto_region 22 with fail
  go_region_held3 (fun X => X.cell? ⟨w.heap.size, 18, none⟩ = some (.string xn) ∧ X.cell? ⟨w.heap.size, 19, none⟩ = some (.int .i64 xe)) (first | (((refine ⟨?_, ?_⟩)) <;> with_reducible assumption) | exact HKW.out _ (below_alloc' D4.out _ (Nat.le_refl _))) (first | (go_at_call_of 30 (Value.int IntKind.i64 xe); refine (digits_any xe _ (by omega) (by omega) (T2.out.below D0.out)).mono ?_; rintro e w4 ⟨rfl, hb4⟩; have D4 := hid (D0.out.trans (hb4.mono D0.out.size)); obtain ⟨l4_18, l4_19⟩ := HKW.out _ D4.out; clear hb4))
  have EE := hid (E2.out.trans (D4.out.mono E2.out.size))
  have hcw : cmdT c = [sB [98, 101, 97, 116], xn, sB (dgT xe)] := by unfold cmdT; simp only [hk]; rw [Hxn.out, Hxe.out]; rfl
  have hsm : ∀ y ∈ ([sB [98, 101, 97, 116], xn, sB (dgT xe)] : List ByteArray), y.size ≤ 1000 := by
      intro y hy
      simp only [List.mem_cons, List.not_mem_nil, or_false] at hy
      rcases hy with rfl | rfl | rfl
      · decide
      · omega
      · rw [sB_size]; have := dg_len xe (by omega) (by omega); omega
  have hjl := jn_len hsm
  have HTO := hid (told_any (b := w4.heap.size) (off := 0) (cap := 3) (ws := [sB [98, 101, 97, 116], xn, sB (dgT xe)]) (w4.alloc (.cells ([sB [98, 101, 97, 116], xn, sB (dgT xe)].map Value.string).toArray 9)) (wl_cells (alloc_at _ _)) (by simp) (by simp) (by simp) (by simp only [List.length_cons, List.length_nil] at hjl; omega))
  obtain ⟨L, hL⟩ : ∃ L, L = jn [sB [98, 101, 97, 116], xn, sB (dgT xe)] := ⟨_, rfl⟩
  rw [← hL] at HTO
  have HLL : Hid (printP c = if 512 < L.length then ([], 1) else (L, 0)) := by
    unfold Hid
    rw [hL]
    split
    · rename_i q; exact print_long HF.out hcw q
    · rename_i q; exact print_ok HF.out hcw q
  have HEE : Hid (Below w.heap.size w (w4.alloc (.cells ([sB [98, 101, 97, 116], xn, sB (dgT xe)].map Value.string).toArray 9))) := below_alloc' EE.out _ (Nat.le_refl _)
  simp only [List.map_cons, List.map_nil, List.length_cons, List.length_nil] at HTO HEE
  clear hcw hsm hjl hL
  go_wp2_with fail
  refine HTO.out.mono ?_
  rintro e w9 ⟨rfl, hb9⟩
  have E9 := hid (HEE.out.trans (hb9.mono HEE.out.size))
  clear hb9 HTO
  have hsz : (sB L).size = L.length := sB_size L
  by_cases hq : 512 < L.length
  · have hqi : (512 : Int) < ((sB L).size : Int) := by rw [hsz]; omega
    have HP : Hid (printP c = ([], 1)) := by unfold Hid; rw [HLL.out, if_pos hq]
    clear hq hsz
    go_wp2_with fail
    go_ret2
    exact ⟨by rw [HP.out]; rfl, E9.out⟩
  · have hqi : ¬ (512 : Int) < ((sB L).size : Int) := by rw [hsz]; omega
    have HP : Hid (printP c = (L, 0)) := by unfold Hid; rw [HLL.out, if_neg hq]
    clear hq hsz
    go_wp2_with fail
    go_ret2
    exact ⟨by rw [HP.out]; rfl, E9.out⟩
set_option maxHeartbeats 8000000 in
set_option maxRecDepth 20000 in
theorem print_5 {w : World} {c : Cm} {s : Sls} (hk : c.kind = 5) (hf : formB c = true) (h : CmL w c s) (hT : Tb w) : Calls Tryz.prog 13 #[.agg (cmB c s)] w (PrQ c w) := by
  have HF := hid hf
  have HT := hid hT
  have HFO := hid (fun W (hb : Below w.heap.size w W) => oformed_any (h.below hb))
  have HC := hid h
  have HFB := hid (Fbd.of hf)
  have hne := cmB_ne c s
  clear h hT hf
  have hA : (w.alloc (.cells (cmB c s) 33)).heap[w.heap.size]? = some (.cells (cmB c s) 33 (0, 0)) := alloc_at _ _
  go_enter Tryz.func13, Tryz.ntmps13
  go_wp2_with (first | (refine wpList_load_row rfl 33 (.tmp 1) rfl w.heap.size (by simp [Act.eval, Act.put]) _ _ _ _ hA Tryz.underlying33 rfl (infoC' _ _) ?_))
  refine (HFO.out _ (by repeat (first | with_reducible assumption | with_reducible exact Below.refl _ _ | with_reducible refine Below.drew ?_ | with_reducible refine below_drewN ?_ _ | with_reducible refine below_alloc ?_ _ | with_reducible refine Below.alloc ?_ (by first | omega | (simp; done) | (simp; omega)) _ | with_reducible refine Below.setCell ?_ (by first | omega | (simp; done) | (simp; omega)) _ | with_reducible refine below_setRow ?_ (by first | omega | (simp; done) | (simp; omega)) _))).mono ?_
  rintro e w2 ⟨rfl, hb2⟩
  rw [HF.out]
  have A2 := (hb2.block _ (by simp)).trans hA
  have E2 := hid (below_one hb2)
  have T2 := hid (HT.out.below E2.out)
  have k0 : w2.cell? ⟨w.heap.size, 0, none⟩ = some (.int .i64 5) := (cmB_cell A2 0).trans (by rw [← hk]; rfl)
  have lw := lt_of_at A2
  clear hA HFO hb2
  obtain ⟨xn, hxn⟩ : ∃ x, x = c.node := ⟨_, rfl⟩
  have Hxn := hid hxn
  obtain ⟨xe, hxe⟩ : ∃ x, x = c.ep := ⟨_, rfl⟩
  have Hxe := hid hxe
  obtain ⟨xv, hxv⟩ : ∃ x, x = c.vec := ⟨_, rfl⟩
  have Hxv := hid hxv
  have HKW : Hid (∀ X, Below w2.heap.size w2 X → X.cell? ⟨w.heap.size, 18, none⟩ = some (.string xn) ∧ X.cell? ⟨w.heap.size, 19, none⟩ = some (.int .i64 xe)) := fun X hb => ⟨(hb.cell (p := ⟨w.heap.size, 18, none⟩) lw).trans ((cmB_cell A2 18).trans (by rw [hxn]; exact cm_at18 _ _)), (hb.cell (p := ⟨w.heap.size, 19, none⟩) lw).trans ((cmB_cell A2 19).trans (by rw [hxe]; exact cm_at19 _ _))⟩
  have HSV : Hid (∀ X, Below w2.heap.size w2 X → SlG 1 fZ X (some ⟨w.heap.size, 20, none⟩) 4 [xv.1, xv.2.1, xv.2.2.1, xv.2.2.2]) := fun X hb => by rw [hxv]; exact sl_vec ((hb.block _ lw).trans A2)
  have hok : okV xv = true := by rw [hxv]; exact HFB.out.vec hk
  have bxn : xn.size ≤ 64 := by rw [hxn]; exact name_size (HFB.out.ep (by omega)).2.2
  have bxe : 1 ≤ xe ∧ xe ≤ 2147483647 := by have := HFB.out.ep (by omega); rw [hxe]; exact ⟨this.1, this.2.1⟩
  have D0 : Hid (Below w2.heap.size w2 w2.drew) := (Below.refl _ _).drew
  obtain ⟨l18, l19⟩ := HKW.out _ (Below.refl _ _)
  obtain ⟨ld18, ld19⟩ := HKW.out _ D0.out
  clear hxn hxe hxv
  go_upto_region 20 with fail
  go_region_held3 (fun X => X.cell? ⟨w.heap.size, 18, none⟩ = some (.string xn) ∧ X.cell? ⟨w.heap.size, 19, none⟩ = some (.int .i64 xe)) (first | (((refine ⟨?_, ?_⟩)) <;> with_reducible assumption) | exact HKW.out _ (below_alloc' D5.out _ (Nat.le_refl _))) (first | (go_at_call_of 30 (Value.int IntKind.i64 xe); refine (digits_any xe _ (by omega) (by omega) (T2.out.below D0.out)).mono ?_; rintro e w4 ⟨rfl, hb4⟩; have D4 := hid (D0.out.trans (hb4.mono D0.out.size)); obtain ⟨l4_18, l4_19⟩ := HKW.out _ D4.out; clear hb4) | (go_at_call 31; refine (joined_vec _ (HSV.out _ D4.out) hok (T2.out.below D4.out)).mono ?_; rintro e w5 ⟨rfl, hb5⟩; have D5 := hid (D4.out.trans (hb5.mono D4.out.size)); obtain ⟨l5_18, l5_19⟩ := HKW.out _ D5.out; clear hb5))
  have EE := hid (E2.out.trans (D5.out.mono E2.out.size))
  have hcw : cmdT c = [sB [117, 112], xn, sB (dgT xe), sB (vecT xv)] := by unfold cmdT; simp only [hk]; rw [Hxn.out, Hxe.out, Hxv.out]; rfl
  have hsm : ∀ y ∈ ([sB [117, 112], xn, sB (dgT xe), sB (vecT xv)] : List ByteArray), y.size ≤ 1000 := by
      intro y hy
      simp only [List.mem_cons, List.not_mem_nil, or_false] at hy
      rcases hy with rfl | rfl | rfl | rfl
      · decide
      · omega
      · rw [sB_size]; have := dg_len xe (by omega) (by omega); omega
      · rw [sB_size]; have := vec_len hok; omega
  have hjl := jn_len hsm
  have HTO := hid (told_any (b := w5.heap.size) (off := 0) (cap := 4) (ws := [sB [117, 112], xn, sB (dgT xe), sB (vecT xv)]) (w5.alloc (.cells ([sB [117, 112], xn, sB (dgT xe), sB (vecT xv)].map Value.string).toArray 9)) (wl_cells (alloc_at _ _)) (by simp) (by simp) (by simp) (by simp only [List.length_cons, List.length_nil] at hjl; omega))
  obtain ⟨L, hL⟩ : ∃ L, L = jn [sB [117, 112], xn, sB (dgT xe), sB (vecT xv)] := ⟨_, rfl⟩
  rw [← hL] at HTO
  have HLL : Hid (printP c = if 512 < L.length then ([], 1) else (L, 0)) := by
    unfold Hid
    rw [hL]
    split
    · rename_i q; exact print_long HF.out hcw q
    · rename_i q; exact print_ok HF.out hcw q
  have HEE : Hid (Below w.heap.size w (w5.alloc (.cells ([sB [117, 112], xn, sB (dgT xe), sB (vecT xv)].map Value.string).toArray 9))) := below_alloc' EE.out _ (Nat.le_refl _)
  simp only [List.map_cons, List.map_nil, List.length_cons, List.length_nil] at HTO HEE
  clear hcw hsm hjl hL
  go_wp2_with fail
  refine HTO.out.mono ?_
  rintro e w9 ⟨rfl, hb9⟩
  have E9 := hid (HEE.out.trans (hb9.mono HEE.out.size))
  clear hb9 HTO
  have hsz : (sB L).size = L.length := sB_size L
  by_cases hq : 512 < L.length
  · have hqi : (512 : Int) < ((sB L).size : Int) := by rw [hsz]; omega
    have HP : Hid (printP c = ([], 1)) := by unfold Hid; rw [HLL.out, if_pos hq]
    clear hq hsz
    go_wp2_with fail
    go_ret2
    exact ⟨by rw [HP.out]; rfl, E9.out⟩
  · have hqi : ¬ (512 : Int) < ((sB L).size : Int) := by rw [hsz]; omega
    have HP : Hid (printP c = (L, 0)) := by unfold Hid; rw [HLL.out, if_neg hq]
    clear hq hsz
    go_wp2_with fail
    go_ret2
    exact ⟨by rw [HP.out]; rfl, E9.out⟩
set_option maxHeartbeats 8000000 in
set_option maxRecDepth 20000 in
theorem print_1 {w : World} {c : Cm} {s : Sls} (hk : c.kind = 1) (hf : formB c = true) (h : CmL w c s) (hT : Tb w) : Calls Tryz.prog 13 #[.agg (cmB c s)] w (PrQ c w) := by
  have HF := hid hf
  have HT := hid hT
  have HFO := hid (fun W (hb : Below w.heap.size w W) => oformed_any (h.below hb))
  have HC := hid h
  have HFB := hid (Fbd.of hf)
  have hne := cmB_ne c s
  clear h hT hf
  have hA : (w.alloc (.cells (cmB c s) 33)).heap[w.heap.size]? = some (.cells (cmB c s) 33 (0, 0)) := alloc_at _ _
  go_enter Tryz.func13, Tryz.ntmps13
  go_wp2_with (first | (refine wpList_load_row rfl 33 (.tmp 1) rfl w.heap.size (by simp [Act.eval, Act.put]) _ _ _ _ hA Tryz.underlying33 rfl (infoC' _ _) ?_))
  refine (HFO.out _ (by repeat (first | with_reducible assumption | with_reducible exact Below.refl _ _ | with_reducible refine Below.drew ?_ | with_reducible refine below_drewN ?_ _ | with_reducible refine below_alloc ?_ _ | with_reducible refine Below.alloc ?_ (by first | omega | (simp; done) | (simp; omega)) _ | with_reducible refine Below.setCell ?_ (by first | omega | (simp; done) | (simp; omega)) _ | with_reducible refine below_setRow ?_ (by first | omega | (simp; done) | (simp; omega)) _))).mono ?_
  rintro e w2 ⟨rfl, hb2⟩
  rw [HF.out]
  have A2 := (hb2.block _ (by simp)).trans hA
  have E2 := hid (below_one hb2)
  have T2 := hid (HT.out.below E2.out)
  have k0 : w2.cell? ⟨w.heap.size, 0, none⟩ = some (.int .i64 1) := (cmB_cell A2 0).trans (by rw [← hk]; rfl)
  have lw := lt_of_at A2
  clear hA HFO hb2
  obtain ⟨xn, hxn⟩ : ∃ x, x = c.tn := ⟨_, rfl⟩
  have Hxn := hid hxn
  obtain ⟨xe, hxe⟩ : ∃ x, x = c.tw := ⟨_, rfl⟩
  have Hxe := hid hxe
  obtain ⟨xv, hxv⟩ : ∃ x, x = c.tq := ⟨_, rfl⟩
  have Hxv := hid hxv
  have HKW : Hid (∀ X, Below w2.heap.size w2 X → X.cell? ⟨w.heap.size, 1, none⟩ = some (.string xn) ∧ X.cell? ⟨w.heap.size, 2, none⟩ = some (.int .i64 xe)) := fun X hb => ⟨(hb.cell (p := ⟨w.heap.size, 1, none⟩) lw).trans ((cmB_cell A2 1).trans (by rw [hxn]; exact cm_at1 _ _)), (hb.cell (p := ⟨w.heap.size, 2, none⟩) lw).trans ((cmB_cell A2 2).trans (by rw [hxe]; exact cm_at2 _ _))⟩
  have HSV : Hid (∀ X, Below w2.heap.size w2 X → SlG 1 fZ X (some ⟨w.heap.size, 3, none⟩) 4 [xv.1, xv.2.1, xv.2.2.1, xv.2.2.2]) := fun X hb => by rw [hxv]; exact sl_tq ((hb.block _ lw).trans A2)
  have hok : okV xv = true := by rw [hxv]; exact (HFB.out.ten hk).2.2
  have bxn : xn.size ≤ 64 := by rw [hxn]; exact name_size (HFB.out.ten hk).1
  have bxe : 1 ≤ xe ∧ xe ≤ 1000 := by rw [hxe]; exact (HFB.out.ten hk).2.1
  have D0 : Hid (Below w2.heap.size w2 w2.drew) := (Below.refl _ _).drew
  obtain ⟨l1, l2⟩ := HKW.out _ (Below.refl _ _)
  obtain ⟨ld1, ld2⟩ := HKW.out _ D0.out
  clear hxn hxe hxv
  go_upto_region 6 with fail
  go_region_held3 (fun X => X.cell? ⟨w.heap.size, 1, none⟩ = some (.string xn) ∧ X.cell? ⟨w.heap.size, 2, none⟩ = some (.int .i64 xe)) (first | (((refine ⟨?_, ?_⟩)) <;> with_reducible assumption) | exact HKW.out _ (below_alloc' D5.out _ (Nat.le_refl _))) (first | (go_at_call_of 30 (Value.int IntKind.i64 xe); refine (digits_any xe _ (by omega) (by omega) (T2.out.below D0.out)).mono ?_; rintro e w4 ⟨rfl, hb4⟩; have D4 := hid (D0.out.trans (hb4.mono D0.out.size)); obtain ⟨l4_1, l4_2⟩ := HKW.out _ D4.out; clear hb4) | (go_at_call 31; refine (joined_vec _ (HSV.out _ D4.out) hok (T2.out.below D4.out)).mono ?_; rintro e w5 ⟨rfl, hb5⟩; have D5 := hid (D4.out.trans (hb5.mono D4.out.size)); obtain ⟨l5_1, l5_2⟩ := HKW.out _ D5.out; clear hb5))
  have EE := hid (E2.out.trans (D5.out.mono E2.out.size))
  have hcw : cmdT c = [sB [116, 101, 110, 97, 110, 116], xn, sB (dgT xe), sB (vecT xv)] := by unfold cmdT; simp only [hk]; rw [Hxn.out, Hxe.out, Hxv.out]; rfl
  have hsm : ∀ y ∈ ([sB [116, 101, 110, 97, 110, 116], xn, sB (dgT xe), sB (vecT xv)] : List ByteArray), y.size ≤ 1000 := by
      intro y hy
      simp only [List.mem_cons, List.not_mem_nil, or_false] at hy
      rcases hy with rfl | rfl | rfl | rfl
      · decide
      · omega
      · rw [sB_size]; have := dg_len xe (by omega) (by omega); omega
      · rw [sB_size]; have := vec_len hok; omega
  have hjl := jn_len hsm
  have HTO := hid (told_any (b := w5.heap.size) (off := 0) (cap := 4) (ws := [sB [116, 101, 110, 97, 110, 116], xn, sB (dgT xe), sB (vecT xv)]) (w5.alloc (.cells ([sB [116, 101, 110, 97, 110, 116], xn, sB (dgT xe), sB (vecT xv)].map Value.string).toArray 9)) (wl_cells (alloc_at _ _)) (by simp) (by simp) (by simp) (by simp only [List.length_cons, List.length_nil] at hjl; omega))
  obtain ⟨L, hL⟩ : ∃ L, L = jn [sB [116, 101, 110, 97, 110, 116], xn, sB (dgT xe), sB (vecT xv)] := ⟨_, rfl⟩
  rw [← hL] at HTO
  have HLL : Hid (printP c = if 512 < L.length then ([], 1) else (L, 0)) := by
    unfold Hid
    rw [hL]
    split
    · rename_i q; exact print_long HF.out hcw q
    · rename_i q; exact print_ok HF.out hcw q
  have HEE : Hid (Below w.heap.size w (w5.alloc (.cells ([sB [116, 101, 110, 97, 110, 116], xn, sB (dgT xe), sB (vecT xv)].map Value.string).toArray 9))) := below_alloc' EE.out _ (Nat.le_refl _)
  simp only [List.map_cons, List.map_nil, List.length_cons, List.length_nil] at HTO HEE
  clear hcw hsm hjl hL
  go_wp2_with fail
  refine HTO.out.mono ?_
  rintro e w9 ⟨rfl, hb9⟩
  have E9 := hid (HEE.out.trans (hb9.mono HEE.out.size))
  clear hb9 HTO
  have hsz : (sB L).size = L.length := sB_size L
  by_cases hq : 512 < L.length
  · have hqi : (512 : Int) < ((sB L).size : Int) := by rw [hsz]; omega
    have HP : Hid (printP c = ([], 1)) := by unfold Hid; rw [HLL.out, if_pos hq]
    clear hq hsz
    go_wp2_with fail
    go_ret2
    exact ⟨by rw [HP.out]; rfl, E9.out⟩
  · have hqi : ¬ (512 : Int) < ((sB L).size : Int) := by rw [hsz]; omega
    have HP : Hid (printP c = (L, 0)) := by unfold Hid; rw [HLL.out, if_neg hq]
    clear hq hsz
    go_wp2_with fail
    go_ret2
    exact ⟨by rw [HP.out]; rfl, E9.out⟩
end
end Go.Proofs.YtidcbcljeofooaaGreatDoor
