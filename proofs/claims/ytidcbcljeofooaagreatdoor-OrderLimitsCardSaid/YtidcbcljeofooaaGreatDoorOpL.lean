/- Chapter 20: the walk of OrderLimits. -/
import Derived.Test.YtidcbcljeofooaaGreatDoorOpD
namespace Go.Proofs.YtidcbcljeofooaaGreatDoor
open Go.RowKit
def limC0 (n : Int) : Cm := { cm0 with kind := 5, node := ⟨#[110]⟩, ep := 1, vec := (n, 0, 0, 0) }
def limC1 (n : Int) : Cm := { cm0 with kind := 3, num := n }
def limC2 (n : Int) : Cm := { cm0 with kind := 6, node := ⟨#[110]⟩, ep := n }
def limC3 (n : Int) : Cm := { cm0 with kind := 1, tn := ⟨#[116]⟩, tw := n }
theorem name_n : nameB ⟨#[110]⟩ = true := by decide +kernel
theorem name_t : nameB ⟨#[116]⟩ = true := by decide +kernel
theorem lim_form0 (n : Int) : formB (limC0 n) = decide (0 ≤ n ∧ n ≤ 1099511627776) := by
  unfold formB onlyB rowsB limC0 cm0 okV formedB ok1
  rw [Bool.eq_iff_iff]
  simp [name_n, epB]
theorem lim_form1 (n : Int) : formB (limC1 n) = decide (1 ≤ n ∧ n ≤ 100) := by
  unfold formB onlyB rowsB limC1 cm0 idB
  rw [Bool.eq_iff_iff]
  simp
theorem lim_form2 (n : Int) : formB (limC2 n) = decide (1 ≤ n ∧ n ≤ 2147483647) := by
  unfold formB onlyB rowsB limC2 cm0 epB
  rw [Bool.eq_iff_iff]
  simp [name_n]
theorem lim_form3 (n : Int) : formB (limC3 n) = decide (1 ≤ n ∧ n ≤ 1000) := by
  unfold formB onlyB rowsB limC3 cm0 tenB okV formedB ok1 zeroV
  rw [Bool.eq_iff_iff]
  simp [name_t]
theorem lim_print {c : Cm} (hf : formB c = true) (hs : ∀ y ∈ cmdT c, y.size ≤ 100) (hl : (cmdT c).length ≤ 4) : ∃ L, printP c = (L, 0) ∧ lineP (sB L) = (c, 0) := by
  have h1 := jn_len hs
  have h2 : (100 + 1) * (cmdT c).length ≤ 101 * 4 := Nat.mul_le_mul (Nat.le_refl _) hl
  have hp : printP c = (jn (cmdT c), 0) := by unfold printP; rw [if_pos hf, if_neg (by omega)]
  exact ⟨_, hp, print_back hp⟩
theorem lim_cml (w : World) {c : Cm} (h : c.job = jb0) (h1 : c.tn.size ≤ 10) (h2 : c.node.size ≤ 10) : CmL w c s0 :=
  ⟨by rw [h]; exact ⟨Nat.zero_le _, Nat.zero_le _, Nat.zero_le _, Nat.zero_le _⟩, sl4_nil _ _ _ (by rw [h]; rfl) (by rw [h]; rfl) (by rw [h]; rfl) (by rw [h]; rfl), by unfold maxLen; omega, by rw [h]; exact Nat.zero_le _, by unfold maxLen; omega⟩
theorem dg_small {n : Int} (h0 : 0 ≤ n) (h : n ≤ 9999999999999) : (dgT n).length ≤ 21 := dg_len n (by omega) (by omega)
theorem lim_ok0 {n : Int} (h0 : 0 ≤ n) (h : n ≤ 1099511627776) : ∃ L, printP (limC0 n) = (L, 0) ∧ lineP (sB L) = (limC0 n, 0) := by
  refine lim_print (by rw [lim_form0]; simp; omega) (fun y hy => ?_) (Nat.le_of_ble_eq_true rfl)
  have e : cmdT (limC0 n) = [sB [117, 112], ⟨#[110]⟩, sB (dgT 1), sB (vecT (n, 0, 0, 0))] := rfl
  rw [e] at hy
  simp only [List.mem_cons, List.not_mem_nil, or_false] at hy
  rcases hy with rfl | rfl | rfl | rfl
  · decide
  · decide
  · rw [sB_size]; have := dg_small (n := 1) (by omega) (by omega); omega
  · rw [sB_size]; exact vec_len ((okV_iff _).2 ⟨⟨h0, h⟩, by simp, by simp, by simp⟩)
theorem lim_ok1 {n : Int} (h0 : 1 ≤ n) (h : n ≤ 100) : ∃ L, printP (limC1 n) = (L, 0) ∧ lineP (sB L) = (limC1 n, 0) := by
  refine lim_print (by rw [lim_form1]; simp; omega) (fun y hy => ?_) (Nat.le_of_ble_eq_true rfl)
  have e : cmdT (limC1 n) = [sB [99, 97, 110, 99, 101, 108], sB (dgT n)] := rfl
  rw [e] at hy
  simp only [List.mem_cons, List.not_mem_nil, or_false] at hy
  rcases hy with rfl | rfl
  · decide
  · rw [sB_size]; have := dg_small (n := n) (by omega) (by omega); omega
theorem lim_ok2 {n : Int} (h0 : 1 ≤ n) (h : n ≤ 2147483647) : ∃ L, printP (limC2 n) = (L, 0) ∧ lineP (sB L) = (limC2 n, 0) := by
  refine lim_print (by rw [lim_form2]; simp; omega) (fun y hy => ?_) (Nat.le_of_ble_eq_true rfl)
  have e : cmdT (limC2 n) = [sB [98, 101, 97, 116], ⟨#[110]⟩, sB (dgT n)] := rfl
  rw [e] at hy
  simp only [List.mem_cons, List.not_mem_nil, or_false] at hy
  rcases hy with rfl | rfl | rfl
  · decide
  · decide
  · rw [sB_size]; have := dg_small (n := n) (by omega) (by omega); omega
theorem lim_ok3 {n : Int} (h0 : 1 ≤ n) (h : n ≤ 1000) : ∃ L, printP (limC3 n) = (L, 0) ∧ lineP (sB L) = (limC3 n, 0) := by
  refine lim_print (by rw [lim_form3]; simp; omega) (fun y hy => ?_) (Nat.le_of_ble_eq_true rfl)
  have e : cmdT (limC3 n) = [sB [116, 101, 110, 97, 110, 116], ⟨#[116]⟩, sB (dgT n), sB (vecT zeroV)] := rfl
  rw [e] at hy
  simp only [List.mem_cons, List.not_mem_nil, or_false] at hy
  rcases hy with rfl | rfl | rfl | rfl
  · decide
  · decide
  · rw [sB_size]; have := dg_small (n := n) (by omega) (by omega); omega
  · rw [sB_size]; exact vec_len (by decide)
theorem buildL0 (n : Int) (w : World) : (Instr.build 33 #[(0, .int .i64 5), (3, .string ⟨#[110]⟩), (4, .int .i64 1), (5, .agg #[.int .i64 n, .int .i64 0, .int .i64 0, .int .i64 0])]).run Tryz.prog w = .ok (.agg (cmB (limC0 n) s0)) w := run_build w _ _ _ (by kernel_rfl)
theorem buildL1 (n : Int) (w : World) : (Instr.build 33 #[(0, .int .i64 3), (6, .int .i64 n)]).run Tryz.prog w = .ok (.agg (cmB (limC1 n) s0)) w := run_build w _ _ _ (by kernel_rfl)
theorem buildL2 (n : Int) (w : World) : (Instr.build 33 #[(0, .int .i64 6), (3, .string ⟨#[110]⟩), (4, .int .i64 n)]).run Tryz.prog w = .ok (.agg (cmB (limC2 n) s0)) w := run_build w _ _ _ (by kernel_rfl)
theorem buildL3 (n : Int) (w : World) : (Instr.build 33 #[(0, .int .i64 1), (1, .agg #[.string ⟨#[116]⟩, .int .i64 n, .int .i64 0, .int .i64 0, .int .i64 0, .int .i64 0])]).run Tryz.prog w = .ok (.agg (cmB (limC3 n) s0)) w := run_build w _ _ _ (by kernel_rfl)
/-- A load of a row in a region walked quietly. -/
theorem quiet_load_row {P : Program} {B : Nat} {W : World} {o : Oper} {a : Act} {K : Act → Prop} (ty : TypeId) (x : Operand) (ho : o.op = .load ty x)
    (g : Nat) (hx : a.eval x = .pointer (some ⟨g, 0, none⟩)) (cs : Array Value) (hl : ∀ lx : Lat B W, (loadVar ty ⟨g, 0, none⟩).run P lx.w = .ok (.agg cs) lx.w)
    (h : K (a.put o.dst (.agg cs))) : o.quiet P a (fun w' => ∃ x : Lat B W, w' = x.w) K := by
  refine ⟨.agg cs, ?_, h⟩
  rintro w ⟨lx, rfl⟩
  unfold Oper.quietAt execOp
  simp only [ho, hx, Instr.loadAt, Instr.sureAddr, Sem.run_bind, Sem.run_pure, Result.andThen_ok, hl lx]
  exact ⟨rfl, rfl⟩
theorem range_of {w : World} {g : Nat} {C : Array Value} {t : TypeId} {f : Nat × Nat} (h : w.heap[g]? = some (.cells C t f)) : w.rangeAt g 0 C.toList := fun j v hj => by
  rw [Nat.zero_add, blk_cell h, ← Array.getElem?_toList]; exact hj
section
attribute [local go_sem ↓] zeroCmd buildCmd0 ldC
set_option maxHeartbeats 16000000 in
set_option maxRecDepth 20000 in
theorem wlim_0 (n r : Int) (w : World) (hT : Tb w) (h0 : 0 ≤ n) (h9 : n ≤ 9999999999999) (_hr0 : 0 ≤ r) (_hr : r < 256) (hk : r.tmod 4 = 0) : Calls Tryz.prog 6 #[.int .i64 n, .int .u8 r] w fun e w' => e = .returned (.bool true) ∧ Below w.heap.size w w' := by
  have HT := hid hT
  have HAW := hid (awake_any w hT.u)
  clear hT
  have hne := cmB_ne cm0 s0
  have hne2 := cmB_ne (limC0 n) s0
  have hn0 : ¬ n < 0 := by omega
  have hn9 : ¬ 9999999999999 < n := by omega
  go_enter Tryz.func6, Tryz.ntmps6
  go_wp2_with fail
  refine HAW.out.mono ?_
  rintro e w1 ⟨rfl, hb1⟩
  have HB1 := hid hb1
  clear hb1 HAW
  have hA : (w1.alloc (.cells (cmB cm0 s0) 33)).heap[w1.heap.size]? = some (.cells (cmB cm0 s0) 33 (0, 0)) := alloc_at _ _
  have hA2 : ((w1.alloc (.cells (cmB cm0 s0) 33)).setRow w1.heap.size (cmB (limC0 n) s0)).heap[w1.heap.size]? = some (.cells (cmB (limC0 n) s0) 33 (0, 0)) := setRow_at hA _
  go_upto_region 15 with (first | (refine wpList_store_row rfl 33 (.tmp 5) (.tmp 26) rfl w1.heap.size (cmB (limC0 n) s0) (by simp [Act.eval]) (by simp [Act.eval]; rfl) _ _ hA (infoC' _ _) (cmB_sizes _ _ _ _) (cmB_ones _ _) ?_))
  refine wp_name ?_
  intro wr hwr
  have C0 : wr.heap[w1.heap.size]? = some (.cells (cmB (limC0 n) s0) 33 (0, 0)) := by
    rw [hwr]; exact setRow_at hA _
  have HB := hid (show Below w.heap.size w wr by rw [hwr]; exact below_setRow (below_alloc' HB1.out _) HB1.out.size _)
  clear hwr hA hA2
  have HF : formB (limC0 n) = decide (0 ≤ n ∧ n ≤ 1099511627776) := lim_form0 n
  have HCL := hid (fun W => lim_cml W (c := limC0 n) rfl (Nat.le_of_ble_eq_true rfl) (Nat.le_of_ble_eq_true rfl))
  obtain ⟨c, hc⟩ : ∃ c, c = limC0 n := ⟨_, rfl⟩
  have HC := hid hc
  rw [← hc] at C0 HF HCL
  have hnec := cmB_ne c s0
  have hsn : (sB []).toList = [] := by decide +kernel
  have HTr := hid (HT.out.below HB.out)
  by_cases hfit : 0 ≤ n ∧ n ≤ 1099511627776
  · have hl : 0 ≤ n := hfit.1
    have hh : n ≤ 1099511627776 := hfit.2
    obtain ⟨L, hp, hlb⟩ := lim_ok0 hl hh
    rw [← hc] at hp hlb
    rw [decide_eq_true hfit] at HF
    have HPR := hid (print_5 (w := wr) (c := c) (s := s0) (by rw [hc]; rfl) HF (HCL.out wr) HTr.out)
    have HFF := hid HF
    unfold PrQ at HPR
    rw [hp] at HPR
    have HLB := hid hlb
    clear hc hp hlb hfit HF
    go_wp2_with (first | (refine wpList_load_row rfl 33 (.tmp 5) rfl w1.heap.size (by simp [Act.eval, Act.put]) _ _ _ _ C0 Tryz.underlying33 rfl (infoC' _ _) ?_))
    refine HPR.out.mono ?_
    rintro e w2 ⟨rfl, hb2⟩
    have C2 := (hb2.block _ (lt_of_at C0)).trans C0
    have HB2 := hid (HB.out.trans (hb2.mono HB.out.size))
    have HFO := hid (oformed_any (HCL.out w2))
    rw [HFF.out] at HFO
    have HT2 := hid (HTr.out.below hb2)
    clear hb2 HPR C0
    go_wp2_with (first | (refine wpList_load_row_g (by rfl) 33 (.tmp 5) rfl w1.heap.size (by simp [Act.eval, Act.put]) _ _ _ _ C2 Tryz.underlying33 rfl (infoC' _ _) ?_))
    refine HFO.out.mono ?_
    rintro e w3 ⟨rfl, hb3⟩
    have C3 := (hb3.block _ (lt_of_at C2)).trans C2
    have HB3 := hid (HB2.out.trans (hb3.mono HB2.out.size))
    have HPA := hid (parse_any (sB L) w3 (HT2.out.below hb3).u)
    unfold ParQ at HPA
    rw [HLB.out] at HPA
    clear hb3 HFO C2
    go_wp2_with fail
    refine HPA.out.mono ?_
    rintro e w4 ⟨sl, rfl, hml, hb4⟩
    have C4 := (hb4.block _ (lt_of_at C3)).trans C3
    have HB4 := hid (HB3.out.trans (hb4.mono HB3.out.size))
    have HML := hid hml
    clear hb4 HPA C3 hml
    have hn1 := cmB_ne c sl
    have hA4 : (w4.alloc (.cells (cmB cm0 s0) 33)).heap[w4.heap.size]? = some (.cells (cmB cm0 s0) 33 (0, 0)) := alloc_at _ _
    have hl4 := lt_of_at C4
    go_upto_region 22 with (first | (refine wpList_store_row rfl 33 (.tmp 11) (.tmp 76) rfl w4.heap.size (cmB c sl) (by simp [Act.eval]) (by simp [Act.eval]) _ _ hA4 (infoC' _ _) (cmB_sizes _ _ _ _) (cmB_ones _ _) ?_))
    refine wp_name ?_
    intro w5 hw5
    have C5 : w5.heap[w1.heap.size]? = some (.cells (cmB c s0) 33 (0, 0)) := by
      rw [hw5]; exact setRow_ne (by omega) (alloc_at_lt C4 _) _
    have D5 : w5.heap[w4.heap.size]? = some (.cells (cmB c sl) 33 (0, 0)) := by
      rw [hw5]; exact setRow_at hA4 _
    have b5 : Below w4.heap.size w4 w5 := by rw [hw5]; exact below_setRow (below_alloc (Below.refl _ _) _) (Nat.le_refl _) _
    have HX5 := hid b5
    have HB5 := hid (HB4.out.trans (b5.mono HB4.out.size))
    have HS : Hid (∀ X, Below w5.heap.size w5 X → Calls Tryz.prog 11 #[.agg (cmB c s0), .agg (cmB c sl)] X fun e w' => e = .returned (.bool true) ∧ Below X.heap.size X w') := fun X hb => same_cmd (HCL.out X) ((HML.out.below (HX5.out.trans (hb.mono HX5.out.size))).sl)
    clear hw5 hA4 b5
    have C5d : w5.drew.heap[w1.heap.size]? = some (.cells (cmB c s0) 33 (0, 0)) := C5
    have D5d : w5.drew.heap[w4.heap.size]? = some (.cells (cmB c sl) 33 (0, 0)) := D5
    have E0 : Hid (Below w5.heap.size w5 w5.drew) := (Below.refl _ _).drew
    have hv1 : ∀ lx_ : Lat w5.heap.size w5, (loadVar 33 ⟨w1.heap.size, 0, none⟩).run Tryz.prog lx_.w = .ok (.agg (cmB c s0)) lx_.w := fun lx_ => ldV ((lx_.h.block _ (lt_of_at C5)).trans C5)
    have hv2 : ∀ lx_ : Lat w5.heap.size w5, (loadVar 33 ⟨w4.heap.size, 0, none⟩).run Tryz.prog lx_.w = .ok (.agg (cmB c sl)) lx_.w := fun lx_ => ldV ((lx_.h.block _ (lt_of_at D5)).trans D5)
    clear C5 D5 C5d D5d C4 E0
    refine wp_region_lat (by kernel_rfl) (by kernel_rfl) ?_
    repeat (first | go_big_quiet_step (first | (go_at_call_of 12 (Value.agg (cmB c s0)); exact lat_of (Nat.le_refl _) (plain_any c s0 _)) | (go_at_call_of 12 (Value.agg (cmB c sl)); exact lat_of (Nat.le_refl _) (plain_any c sl _)) | (go_at_call 11; exact lat_of (Nat.le_refl _) (HS.out _ (Lat.h _)))) | (go_big_quiet_want; refine quiet_load_row 33 (.tmp 5) rfl w1.heap.size (by simp [Act.eval]) (cmB c s0) hv1 ?_; go_simp; go_big_quiet_on) | (go_big_quiet_want; refine quiet_load_row 33 (.tmp 11) rfl w4.heap.size (by simp [Act.eval]) (cmB c sl) hv2 ?_; go_simp; go_big_quiet_on))
    refine wpQuiet_nil ?_
    rintro w6 ⟨x6, hx6⟩
    have hb6 := x6.h
    rw [← hx6] at hb6
    have HB6 := hid (HB5.out.trans (hb6.mono HB5.out.size))
    clear hx6 x6 hv1 hv2 hb6
    go_wp2_with fail
    go_ret
    exact ⟨rfl, HB6.out⟩
  · have hng : ¬ (0 ≤ n ∧ n ≤ 1099511627776) := hfit
    rw [decide_eq_false hfit] at HF
    have HPR := hid (print_unf (w := wr) (c := c) (s := s0) HF (HCL.out wr))
    have HFF := hid HF
    unfold PrQ at HPR
    rw [print_no HF] at HPR
    have hfb : (decide (0 ≤ n) && decide (n ≤ 1099511627776)) = false := by rw [← Bool.decide_and]; exact decide_eq_false hfit
    clear hc hfit HF
    by_cases hl : 0 ≤ n
    · have hh : ¬ n ≤ 1099511627776 := fun h => hng ⟨hl, h⟩
      clear hng hfb
      go_wp2_with (first | (refine wpList_load_row rfl 33 (.tmp 5) rfl w1.heap.size (by simp [Act.eval, Act.put]) _ _ _ _ C0 Tryz.underlying33 rfl (infoC' _ _) ?_))
      refine HPR.out.mono ?_
      rintro e w2 ⟨rfl, hb2⟩
      have C2 := (hb2.block _ (lt_of_at C0)).trans C0
      have HB2 := hid (HB.out.trans (hb2.mono HB.out.size))
      have HFO := hid (oformed_any (HCL.out w2))
      rw [HFF.out] at HFO
      clear hb2 HPR C0
      go_wp2_with (first | (refine wpList_load_row_g (by rfl) 33 (.tmp 5) rfl w1.heap.size (by simp [Act.eval, Act.put]) _ _ _ _ C2 Tryz.underlying33 rfl (infoC' _ _) ?_))
      refine HFO.out.mono ?_
      rintro e w3 ⟨rfl, hb3⟩
      have HB3 := hid (HB2.out.trans (hb3.mono HB2.out.size))
      clear hb3 HFO C2
      go_wp2_with fail
      go_ret
      exact ⟨rfl, HB3.out⟩
    · exact absurd h0 hl
set_option maxHeartbeats 16000000 in
set_option maxRecDepth 20000 in
theorem wlim_1 (n r : Int) (w : World) (hT : Tb w) (h0 : 0 ≤ n) (h9 : n ≤ 9999999999999) (_hr0 : 0 ≤ r) (_hr : r < 256) (hk : r.tmod 4 = 1) : Calls Tryz.prog 6 #[.int .i64 n, .int .u8 r] w fun e w' => e = .returned (.bool true) ∧ Below w.heap.size w w' := by
  have HT := hid hT
  have HAW := hid (awake_any w hT.u)
  clear hT
  have hne := cmB_ne cm0 s0
  have hne2 := cmB_ne (limC0 n) s0
  have hn0 : ¬ n < 0 := by omega
  have hn9 : ¬ 9999999999999 < n := by omega
  go_enter Tryz.func6, Tryz.ntmps6
  go_wp2_with fail
  refine HAW.out.mono ?_
  rintro e w1 ⟨rfl, hb1⟩
  have HB1 := hid hb1
  clear hb1 HAW
  have hA : (w1.alloc (.cells (cmB cm0 s0) 33)).heap[w1.heap.size]? = some (.cells (cmB cm0 s0) 33 (0, 0)) := alloc_at _ _
  have hA2 : ((w1.alloc (.cells (cmB cm0 s0) 33)).setRow w1.heap.size (cmB (limC0 n) s0)).heap[w1.heap.size]? = some (.cells (cmB (limC0 n) s0) 33 (0, 0)) := setRow_at hA _
  go_upto_region 15 with (first | (refine wpList_store_row rfl 33 (.tmp 5) (.tmp 26) rfl w1.heap.size (cmB (limC0 n) s0) (by simp [Act.eval]) (by simp [Act.eval]; rfl) _ _ hA (infoC' _ _) (cmB_sizes _ _ _ _) (cmB_ones _ _) ?_) | (refine wpList_store_row rfl 33 (.tmp 5) (.tmp 32) rfl w1.heap.size (cmB (limC1 n) s0) (by simp [Act.eval, Act.put]) (by simp [Act.eval, Act.put]; rfl) _ _ hA2 (infoC' _ _) (cmB_sizes _ _ _ _) (cmB_ones _ _) ?_))
  refine wp_name ?_
  intro wr hwr
  have C0 : wr.heap[w1.heap.size]? = some (.cells (cmB (limC1 n) s0) 33 (0, 0)) := by
    rw [hwr]; exact setRow_at hA2 _
  have HB := hid (show Below w.heap.size w wr by rw [hwr]; exact below_setRow (below_setRow (below_alloc' HB1.out _) HB1.out.size _) HB1.out.size _)
  clear hwr hA hA2
  have HF : formB (limC1 n) = decide (1 ≤ n ∧ n ≤ 100) := lim_form1 n
  have HCL := hid (fun W => lim_cml W (c := limC1 n) rfl (Nat.le_of_ble_eq_true rfl) (Nat.le_of_ble_eq_true rfl))
  obtain ⟨c, hc⟩ : ∃ c, c = limC1 n := ⟨_, rfl⟩
  have HC := hid hc
  rw [← hc] at C0 HF HCL
  have hnec := cmB_ne c s0
  have hsn : (sB []).toList = [] := by decide +kernel
  have HTr := hid (HT.out.below HB.out)
  by_cases hfit : 1 ≤ n ∧ n ≤ 100
  · have hl : 1 ≤ n := hfit.1
    have hh : n ≤ 100 := hfit.2
    obtain ⟨L, hp, hlb⟩ := lim_ok1 hl hh
    rw [← hc] at hp hlb
    rw [decide_eq_true hfit] at HF
    have HPR := hid (print_3 (w := wr) (c := c) (s := s0) (by rw [hc]; rfl) HF (HCL.out wr) HTr.out)
    have HFF := hid HF
    unfold PrQ at HPR
    rw [hp] at HPR
    have HLB := hid hlb
    clear hc hp hlb hfit HF
    go_wp2_with (first | (refine wpList_load_row rfl 33 (.tmp 5) rfl w1.heap.size (by simp [Act.eval, Act.put]) _ _ _ _ C0 Tryz.underlying33 rfl (infoC' _ _) ?_))
    refine HPR.out.mono ?_
    rintro e w2 ⟨rfl, hb2⟩
    have C2 := (hb2.block _ (lt_of_at C0)).trans C0
    have HB2 := hid (HB.out.trans (hb2.mono HB.out.size))
    have HFO := hid (oformed_any (HCL.out w2))
    rw [HFF.out] at HFO
    have HT2 := hid (HTr.out.below hb2)
    clear hb2 HPR C0
    go_wp2_with (first | (refine wpList_load_row_g (by rfl) 33 (.tmp 5) rfl w1.heap.size (by simp [Act.eval, Act.put]) _ _ _ _ C2 Tryz.underlying33 rfl (infoC' _ _) ?_))
    refine HFO.out.mono ?_
    rintro e w3 ⟨rfl, hb3⟩
    have C3 := (hb3.block _ (lt_of_at C2)).trans C2
    have HB3 := hid (HB2.out.trans (hb3.mono HB2.out.size))
    have HPA := hid (parse_any (sB L) w3 (HT2.out.below hb3).u)
    unfold ParQ at HPA
    rw [HLB.out] at HPA
    clear hb3 HFO C2
    go_wp2_with fail
    refine HPA.out.mono ?_
    rintro e w4 ⟨sl, rfl, hml, hb4⟩
    have C4 := (hb4.block _ (lt_of_at C3)).trans C3
    have HB4 := hid (HB3.out.trans (hb4.mono HB3.out.size))
    have HML := hid hml
    clear hb4 HPA C3 hml
    have hn1 := cmB_ne c sl
    have hA4 : (w4.alloc (.cells (cmB cm0 s0) 33)).heap[w4.heap.size]? = some (.cells (cmB cm0 s0) 33 (0, 0)) := alloc_at _ _
    have hl4 := lt_of_at C4
    go_upto_region 22 with (first | (refine wpList_store_row rfl 33 (.tmp 11) (.tmp 76) rfl w4.heap.size (cmB c sl) (by simp [Act.eval]) (by simp [Act.eval]) _ _ hA4 (infoC' _ _) (cmB_sizes _ _ _ _) (cmB_ones _ _) ?_))
    refine wp_name ?_
    intro w5 hw5
    have C5 : w5.heap[w1.heap.size]? = some (.cells (cmB c s0) 33 (0, 0)) := by
      rw [hw5]; exact setRow_ne (by omega) (alloc_at_lt C4 _) _
    have D5 : w5.heap[w4.heap.size]? = some (.cells (cmB c sl) 33 (0, 0)) := by
      rw [hw5]; exact setRow_at hA4 _
    have b5 : Below w4.heap.size w4 w5 := by rw [hw5]; exact below_setRow (below_alloc (Below.refl _ _) _) (Nat.le_refl _) _
    have HX5 := hid b5
    have HB5 := hid (HB4.out.trans (b5.mono HB4.out.size))
    have HS : Hid (∀ X, Below w5.heap.size w5 X → Calls Tryz.prog 11 #[.agg (cmB c s0), .agg (cmB c sl)] X fun e w' => e = .returned (.bool true) ∧ Below X.heap.size X w') := fun X hb => same_cmd (HCL.out X) ((HML.out.below (HX5.out.trans (hb.mono HX5.out.size))).sl)
    clear hw5 hA4 b5
    have C5d : w5.drew.heap[w1.heap.size]? = some (.cells (cmB c s0) 33 (0, 0)) := C5
    have D5d : w5.drew.heap[w4.heap.size]? = some (.cells (cmB c sl) 33 (0, 0)) := D5
    have E0 : Hid (Below w5.heap.size w5 w5.drew) := (Below.refl _ _).drew
    have hv1 : ∀ lx_ : Lat w5.heap.size w5, (loadVar 33 ⟨w1.heap.size, 0, none⟩).run Tryz.prog lx_.w = .ok (.agg (cmB c s0)) lx_.w := fun lx_ => ldV ((lx_.h.block _ (lt_of_at C5)).trans C5)
    have hv2 : ∀ lx_ : Lat w5.heap.size w5, (loadVar 33 ⟨w4.heap.size, 0, none⟩).run Tryz.prog lx_.w = .ok (.agg (cmB c sl)) lx_.w := fun lx_ => ldV ((lx_.h.block _ (lt_of_at D5)).trans D5)
    clear C5 D5 C5d D5d C4 E0
    refine wp_region_lat (by kernel_rfl) (by kernel_rfl) ?_
    repeat (first | go_big_quiet_step (first | (go_at_call_of 12 (Value.agg (cmB c s0)); exact lat_of (Nat.le_refl _) (plain_any c s0 _)) | (go_at_call_of 12 (Value.agg (cmB c sl)); exact lat_of (Nat.le_refl _) (plain_any c sl _)) | (go_at_call 11; exact lat_of (Nat.le_refl _) (HS.out _ (Lat.h _)))) | (go_big_quiet_want; refine quiet_load_row 33 (.tmp 5) rfl w1.heap.size (by simp [Act.eval]) (cmB c s0) hv1 ?_; go_simp; go_big_quiet_on) | (go_big_quiet_want; refine quiet_load_row 33 (.tmp 11) rfl w4.heap.size (by simp [Act.eval]) (cmB c sl) hv2 ?_; go_simp; go_big_quiet_on))
    refine wpQuiet_nil ?_
    rintro w6 ⟨x6, hx6⟩
    have hb6 := x6.h
    rw [← hx6] at hb6
    have HB6 := hid (HB5.out.trans (hb6.mono HB5.out.size))
    clear hx6 x6 hv1 hv2 hb6
    go_wp2_with fail
    go_ret
    exact ⟨rfl, HB6.out⟩
  · have hng : ¬ (1 ≤ n ∧ n ≤ 100) := hfit
    rw [decide_eq_false hfit] at HF
    have HPR := hid (print_unf (w := wr) (c := c) (s := s0) HF (HCL.out wr))
    have HFF := hid HF
    unfold PrQ at HPR
    rw [print_no HF] at HPR
    have hfb : (decide (1 ≤ n) && decide (n ≤ 100)) = false := by rw [← Bool.decide_and]; exact decide_eq_false hfit
    clear hc hfit HF
    by_cases hl : 1 ≤ n
    · have hh : ¬ n ≤ 100 := fun h => hng ⟨hl, h⟩
      clear hng hfb
      go_wp2_with (first | (refine wpList_load_row rfl 33 (.tmp 5) rfl w1.heap.size (by simp [Act.eval, Act.put]) _ _ _ _ C0 Tryz.underlying33 rfl (infoC' _ _) ?_))
      refine HPR.out.mono ?_
      rintro e w2 ⟨rfl, hb2⟩
      have C2 := (hb2.block _ (lt_of_at C0)).trans C0
      have HB2 := hid (HB.out.trans (hb2.mono HB.out.size))
      have HFO := hid (oformed_any (HCL.out w2))
      rw [HFF.out] at HFO
      clear hb2 HPR C0
      go_wp2_with (first | (refine wpList_load_row_g (by rfl) 33 (.tmp 5) rfl w1.heap.size (by simp [Act.eval, Act.put]) _ _ _ _ C2 Tryz.underlying33 rfl (infoC' _ _) ?_))
      refine HFO.out.mono ?_
      rintro e w3 ⟨rfl, hb3⟩
      have HB3 := hid (HB2.out.trans (hb3.mono HB2.out.size))
      clear hb3 HFO C2
      go_wp2_with fail
      go_ret
      exact ⟨rfl, HB3.out⟩
    · clear hng hfb
      go_wp2_with (first | (refine wpList_load_row rfl 33 (.tmp 5) rfl w1.heap.size (by simp [Act.eval, Act.put]) _ _ _ _ C0 Tryz.underlying33 rfl (infoC' _ _) ?_))
      refine HPR.out.mono ?_
      rintro e w2 ⟨rfl, hb2⟩
      have C2 := (hb2.block _ (lt_of_at C0)).trans C0
      have HB2 := hid (HB.out.trans (hb2.mono HB.out.size))
      have HFO := hid (oformed_any (HCL.out w2))
      rw [HFF.out] at HFO
      clear hb2 HPR C0
      go_wp2_with (first | (refine wpList_load_row_g (by rfl) 33 (.tmp 5) rfl w1.heap.size (by simp [Act.eval, Act.put]) _ _ _ _ C2 Tryz.underlying33 rfl (infoC' _ _) ?_))
      refine HFO.out.mono ?_
      rintro e w3 ⟨rfl, hb3⟩
      have HB3 := hid (HB2.out.trans (hb3.mono HB2.out.size))
      clear hb3 HFO C2
      go_wp2_with fail
      go_ret
      exact ⟨rfl, HB3.out⟩
set_option maxHeartbeats 16000000 in
set_option maxRecDepth 20000 in
theorem wlim_2 (n r : Int) (w : World) (hT : Tb w) (h0 : 0 ≤ n) (h9 : n ≤ 9999999999999) (_hr0 : 0 ≤ r) (_hr : r < 256) (hk : r.tmod 4 = 2) : Calls Tryz.prog 6 #[.int .i64 n, .int .u8 r] w fun e w' => e = .returned (.bool true) ∧ Below w.heap.size w w' := by
  have HT := hid hT
  have HAW := hid (awake_any w hT.u)
  clear hT
  have hne := cmB_ne cm0 s0
  have hne2 := cmB_ne (limC0 n) s0
  have hn0 : ¬ n < 0 := by omega
  have hn9 : ¬ 9999999999999 < n := by omega
  go_enter Tryz.func6, Tryz.ntmps6
  go_wp2_with fail
  refine HAW.out.mono ?_
  rintro e w1 ⟨rfl, hb1⟩
  have HB1 := hid hb1
  clear hb1 HAW
  have hA : (w1.alloc (.cells (cmB cm0 s0) 33)).heap[w1.heap.size]? = some (.cells (cmB cm0 s0) 33 (0, 0)) := alloc_at _ _
  have hA2 : ((w1.alloc (.cells (cmB cm0 s0) 33)).setRow w1.heap.size (cmB (limC0 n) s0)).heap[w1.heap.size]? = some (.cells (cmB (limC0 n) s0) 33 (0, 0)) := setRow_at hA _
  go_upto_region 15 with (first | (refine wpList_store_row rfl 33 (.tmp 5) (.tmp 26) rfl w1.heap.size (cmB (limC0 n) s0) (by simp [Act.eval]) (by simp [Act.eval]; rfl) _ _ hA (infoC' _ _) (cmB_sizes _ _ _ _) (cmB_ones _ _) ?_) | (refine wpList_store_row rfl 33 (.tmp 5) (.tmp 36) rfl w1.heap.size (cmB (limC2 n) s0) (by simp [Act.eval, Act.put]) (by simp [Act.eval, Act.put]; rfl) _ _ hA2 (infoC' _ _) (cmB_sizes _ _ _ _) (cmB_ones _ _) ?_))
  refine wp_name ?_
  intro wr hwr
  have C0 : wr.heap[w1.heap.size]? = some (.cells (cmB (limC2 n) s0) 33 (0, 0)) := by
    rw [hwr]; exact setRow_at hA2 _
  have HB := hid (show Below w.heap.size w wr by rw [hwr]; exact below_setRow (below_setRow (below_alloc' HB1.out _) HB1.out.size _) HB1.out.size _)
  clear hwr hA hA2
  have HF : formB (limC2 n) = decide (1 ≤ n ∧ n ≤ 2147483647) := lim_form2 n
  have HCL := hid (fun W => lim_cml W (c := limC2 n) rfl (Nat.le_of_ble_eq_true rfl) (Nat.le_of_ble_eq_true rfl))
  obtain ⟨c, hc⟩ : ∃ c, c = limC2 n := ⟨_, rfl⟩
  have HC := hid hc
  rw [← hc] at C0 HF HCL
  have hnec := cmB_ne c s0
  have hsn : (sB []).toList = [] := by decide +kernel
  have HTr := hid (HT.out.below HB.out)
  by_cases hfit : 1 ≤ n ∧ n ≤ 2147483647
  · have hl : 1 ≤ n := hfit.1
    have hh : n ≤ 2147483647 := hfit.2
    obtain ⟨L, hp, hlb⟩ := lim_ok2 hl hh
    rw [← hc] at hp hlb
    rw [decide_eq_true hfit] at HF
    have HPR := hid (print_6 (w := wr) (c := c) (s := s0) (by rw [hc]; rfl) HF (HCL.out wr) HTr.out)
    have HFF := hid HF
    unfold PrQ at HPR
    rw [hp] at HPR
    have HLB := hid hlb
    clear hc hp hlb hfit HF
    go_wp2_with (first | (refine wpList_load_row rfl 33 (.tmp 5) rfl w1.heap.size (by simp [Act.eval, Act.put]) _ _ _ _ C0 Tryz.underlying33 rfl (infoC' _ _) ?_))
    refine HPR.out.mono ?_
    rintro e w2 ⟨rfl, hb2⟩
    have C2 := (hb2.block _ (lt_of_at C0)).trans C0
    have HB2 := hid (HB.out.trans (hb2.mono HB.out.size))
    have HFO := hid (oformed_any (HCL.out w2))
    rw [HFF.out] at HFO
    have HT2 := hid (HTr.out.below hb2)
    clear hb2 HPR C0
    go_wp2_with (first | (refine wpList_load_row_g (by rfl) 33 (.tmp 5) rfl w1.heap.size (by simp [Act.eval, Act.put]) _ _ _ _ C2 Tryz.underlying33 rfl (infoC' _ _) ?_))
    refine HFO.out.mono ?_
    rintro e w3 ⟨rfl, hb3⟩
    have C3 := (hb3.block _ (lt_of_at C2)).trans C2
    have HB3 := hid (HB2.out.trans (hb3.mono HB2.out.size))
    have HPA := hid (parse_any (sB L) w3 (HT2.out.below hb3).u)
    unfold ParQ at HPA
    rw [HLB.out] at HPA
    clear hb3 HFO C2
    go_wp2_with fail
    refine HPA.out.mono ?_
    rintro e w4 ⟨sl, rfl, hml, hb4⟩
    have C4 := (hb4.block _ (lt_of_at C3)).trans C3
    have HB4 := hid (HB3.out.trans (hb4.mono HB3.out.size))
    have HML := hid hml
    clear hb4 HPA C3 hml
    have hn1 := cmB_ne c sl
    have hA4 : (w4.alloc (.cells (cmB cm0 s0) 33)).heap[w4.heap.size]? = some (.cells (cmB cm0 s0) 33 (0, 0)) := alloc_at _ _
    have hl4 := lt_of_at C4
    go_upto_region 22 with (first | (refine wpList_store_row rfl 33 (.tmp 11) (.tmp 76) rfl w4.heap.size (cmB c sl) (by simp [Act.eval]) (by simp [Act.eval]) _ _ hA4 (infoC' _ _) (cmB_sizes _ _ _ _) (cmB_ones _ _) ?_))
    refine wp_name ?_
    intro w5 hw5
    have C5 : w5.heap[w1.heap.size]? = some (.cells (cmB c s0) 33 (0, 0)) := by
      rw [hw5]; exact setRow_ne (by omega) (alloc_at_lt C4 _) _
    have D5 : w5.heap[w4.heap.size]? = some (.cells (cmB c sl) 33 (0, 0)) := by
      rw [hw5]; exact setRow_at hA4 _
    have b5 : Below w4.heap.size w4 w5 := by rw [hw5]; exact below_setRow (below_alloc (Below.refl _ _) _) (Nat.le_refl _) _
    have HX5 := hid b5
    have HB5 := hid (HB4.out.trans (b5.mono HB4.out.size))
    have HS : Hid (∀ X, Below w5.heap.size w5 X → Calls Tryz.prog 11 #[.agg (cmB c s0), .agg (cmB c sl)] X fun e w' => e = .returned (.bool true) ∧ Below X.heap.size X w') := fun X hb => same_cmd (HCL.out X) ((HML.out.below (HX5.out.trans (hb.mono HX5.out.size))).sl)
    clear hw5 hA4 b5
    have C5d : w5.drew.heap[w1.heap.size]? = some (.cells (cmB c s0) 33 (0, 0)) := C5
    have D5d : w5.drew.heap[w4.heap.size]? = some (.cells (cmB c sl) 33 (0, 0)) := D5
    have E0 : Hid (Below w5.heap.size w5 w5.drew) := (Below.refl _ _).drew
    have hv1 : ∀ lx_ : Lat w5.heap.size w5, (loadVar 33 ⟨w1.heap.size, 0, none⟩).run Tryz.prog lx_.w = .ok (.agg (cmB c s0)) lx_.w := fun lx_ => ldV ((lx_.h.block _ (lt_of_at C5)).trans C5)
    have hv2 : ∀ lx_ : Lat w5.heap.size w5, (loadVar 33 ⟨w4.heap.size, 0, none⟩).run Tryz.prog lx_.w = .ok (.agg (cmB c sl)) lx_.w := fun lx_ => ldV ((lx_.h.block _ (lt_of_at D5)).trans D5)
    clear C5 D5 C5d D5d C4 E0
    refine wp_region_lat (by kernel_rfl) (by kernel_rfl) ?_
    repeat (first | go_big_quiet_step (first | (go_at_call_of 12 (Value.agg (cmB c s0)); exact lat_of (Nat.le_refl _) (plain_any c s0 _)) | (go_at_call_of 12 (Value.agg (cmB c sl)); exact lat_of (Nat.le_refl _) (plain_any c sl _)) | (go_at_call 11; exact lat_of (Nat.le_refl _) (HS.out _ (Lat.h _)))) | (go_big_quiet_want; refine quiet_load_row 33 (.tmp 5) rfl w1.heap.size (by simp [Act.eval]) (cmB c s0) hv1 ?_; go_simp; go_big_quiet_on) | (go_big_quiet_want; refine quiet_load_row 33 (.tmp 11) rfl w4.heap.size (by simp [Act.eval]) (cmB c sl) hv2 ?_; go_simp; go_big_quiet_on))
    refine wpQuiet_nil ?_
    rintro w6 ⟨x6, hx6⟩
    have hb6 := x6.h
    rw [← hx6] at hb6
    have HB6 := hid (HB5.out.trans (hb6.mono HB5.out.size))
    clear hx6 x6 hv1 hv2 hb6
    go_wp2_with fail
    go_ret
    exact ⟨rfl, HB6.out⟩
  · have hng : ¬ (1 ≤ n ∧ n ≤ 2147483647) := hfit
    rw [decide_eq_false hfit] at HF
    have HPR := hid (print_unf (w := wr) (c := c) (s := s0) HF (HCL.out wr))
    have HFF := hid HF
    unfold PrQ at HPR
    rw [print_no HF] at HPR
    have hfb : (decide (1 ≤ n) && decide (n ≤ 2147483647)) = false := by rw [← Bool.decide_and]; exact decide_eq_false hfit
    clear hc hfit HF
    by_cases hl : 1 ≤ n
    · have hh : ¬ n ≤ 2147483647 := fun h => hng ⟨hl, h⟩
      clear hng hfb
      go_wp2_with (first | (refine wpList_load_row rfl 33 (.tmp 5) rfl w1.heap.size (by simp [Act.eval, Act.put]) _ _ _ _ C0 Tryz.underlying33 rfl (infoC' _ _) ?_))
      refine HPR.out.mono ?_
      rintro e w2 ⟨rfl, hb2⟩
      have C2 := (hb2.block _ (lt_of_at C0)).trans C0
      have HB2 := hid (HB.out.trans (hb2.mono HB.out.size))
      have HFO := hid (oformed_any (HCL.out w2))
      rw [HFF.out] at HFO
      clear hb2 HPR C0
      go_wp2_with (first | (refine wpList_load_row_g (by rfl) 33 (.tmp 5) rfl w1.heap.size (by simp [Act.eval, Act.put]) _ _ _ _ C2 Tryz.underlying33 rfl (infoC' _ _) ?_))
      refine HFO.out.mono ?_
      rintro e w3 ⟨rfl, hb3⟩
      have HB3 := hid (HB2.out.trans (hb3.mono HB2.out.size))
      clear hb3 HFO C2
      go_wp2_with fail
      go_ret
      exact ⟨rfl, HB3.out⟩
    · clear hng hfb
      go_wp2_with (first | (refine wpList_load_row rfl 33 (.tmp 5) rfl w1.heap.size (by simp [Act.eval, Act.put]) _ _ _ _ C0 Tryz.underlying33 rfl (infoC' _ _) ?_))
      refine HPR.out.mono ?_
      rintro e w2 ⟨rfl, hb2⟩
      have C2 := (hb2.block _ (lt_of_at C0)).trans C0
      have HB2 := hid (HB.out.trans (hb2.mono HB.out.size))
      have HFO := hid (oformed_any (HCL.out w2))
      rw [HFF.out] at HFO
      clear hb2 HPR C0
      go_wp2_with (first | (refine wpList_load_row_g (by rfl) 33 (.tmp 5) rfl w1.heap.size (by simp [Act.eval, Act.put]) _ _ _ _ C2 Tryz.underlying33 rfl (infoC' _ _) ?_))
      refine HFO.out.mono ?_
      rintro e w3 ⟨rfl, hb3⟩
      have HB3 := hid (HB2.out.trans (hb3.mono HB2.out.size))
      clear hb3 HFO C2
      go_wp2_with fail
      go_ret
      exact ⟨rfl, HB3.out⟩
set_option maxHeartbeats 16000000 in
set_option maxRecDepth 20000 in
theorem wlim_3 (n r : Int) (w : World) (hT : Tb w) (h0 : 0 ≤ n) (h9 : n ≤ 9999999999999) (_hr0 : 0 ≤ r) (_hr : r < 256) (hk : r.tmod 4 = 3) : Calls Tryz.prog 6 #[.int .i64 n, .int .u8 r] w fun e w' => e = .returned (.bool true) ∧ Below w.heap.size w w' := by
  have HT := hid hT
  have HAW := hid (awake_any w hT.u)
  clear hT
  have hne := cmB_ne cm0 s0
  have hne2 := cmB_ne (limC0 n) s0
  have hn0 : ¬ n < 0 := by omega
  have hn9 : ¬ 9999999999999 < n := by omega
  go_enter Tryz.func6, Tryz.ntmps6
  go_wp2_with fail
  refine HAW.out.mono ?_
  rintro e w1 ⟨rfl, hb1⟩
  have HB1 := hid hb1
  clear hb1 HAW
  have hA : (w1.alloc (.cells (cmB cm0 s0) 33)).heap[w1.heap.size]? = some (.cells (cmB cm0 s0) 33 (0, 0)) := alloc_at _ _
  have hA2 : ((w1.alloc (.cells (cmB cm0 s0) 33)).setRow w1.heap.size (cmB (limC0 n) s0)).heap[w1.heap.size]? = some (.cells (cmB (limC0 n) s0) 33 (0, 0)) := setRow_at hA _
  go_upto_region 15 with (first | (refine wpList_store_row rfl 33 (.tmp 5) (.tmp 26) rfl w1.heap.size (cmB (limC0 n) s0) (by simp [Act.eval]) (by simp [Act.eval]; rfl) _ _ hA (infoC' _ _) (cmB_sizes _ _ _ _) (cmB_ones _ _) ?_) | (refine wpList_store_row rfl 33 (.tmp 5) (.tmp 41) rfl w1.heap.size (cmB (limC3 n) s0) (by simp [Act.eval, Act.put]) (by simp [Act.eval, Act.put]; rfl) _ _ hA2 (infoC' _ _) (cmB_sizes _ _ _ _) (cmB_ones _ _) ?_))
  refine wp_name ?_
  intro wr hwr
  have C0 : wr.heap[w1.heap.size]? = some (.cells (cmB (limC3 n) s0) 33 (0, 0)) := by
    rw [hwr]; exact setRow_at hA2 _
  have HB := hid (show Below w.heap.size w wr by rw [hwr]; exact below_setRow (below_setRow (below_alloc' HB1.out _) HB1.out.size _) HB1.out.size _)
  clear hwr hA hA2
  have HF : formB (limC3 n) = decide (1 ≤ n ∧ n ≤ 1000) := lim_form3 n
  have HCL := hid (fun W => lim_cml W (c := limC3 n) rfl (Nat.le_of_ble_eq_true rfl) (Nat.le_of_ble_eq_true rfl))
  obtain ⟨c, hc⟩ : ∃ c, c = limC3 n := ⟨_, rfl⟩
  have HC := hid hc
  rw [← hc] at C0 HF HCL
  have hnec := cmB_ne c s0
  have hsn : (sB []).toList = [] := by decide +kernel
  have HTr := hid (HT.out.below HB.out)
  by_cases hfit : 1 ≤ n ∧ n ≤ 1000
  · have hl : 1 ≤ n := hfit.1
    have hh : n ≤ 1000 := hfit.2
    obtain ⟨L, hp, hlb⟩ := lim_ok3 hl hh
    rw [← hc] at hp hlb
    rw [decide_eq_true hfit] at HF
    have HPR := hid (print_1 (w := wr) (c := c) (s := s0) (by rw [hc]; rfl) HF (HCL.out wr) HTr.out)
    have HFF := hid HF
    unfold PrQ at HPR
    rw [hp] at HPR
    have HLB := hid hlb
    clear hc hp hlb hfit HF
    go_wp2_with (first | (refine wpList_load_row rfl 33 (.tmp 5) rfl w1.heap.size (by simp [Act.eval, Act.put]) _ _ _ _ C0 Tryz.underlying33 rfl (infoC' _ _) ?_))
    refine HPR.out.mono ?_
    rintro e w2 ⟨rfl, hb2⟩
    have C2 := (hb2.block _ (lt_of_at C0)).trans C0
    have HB2 := hid (HB.out.trans (hb2.mono HB.out.size))
    have HFO := hid (oformed_any (HCL.out w2))
    rw [HFF.out] at HFO
    have HT2 := hid (HTr.out.below hb2)
    clear hb2 HPR C0
    go_wp2_with (first | (refine wpList_load_row_g (by rfl) 33 (.tmp 5) rfl w1.heap.size (by simp [Act.eval, Act.put]) _ _ _ _ C2 Tryz.underlying33 rfl (infoC' _ _) ?_))
    refine HFO.out.mono ?_
    rintro e w3 ⟨rfl, hb3⟩
    have C3 := (hb3.block _ (lt_of_at C2)).trans C2
    have HB3 := hid (HB2.out.trans (hb3.mono HB2.out.size))
    have HPA := hid (parse_any (sB L) w3 (HT2.out.below hb3).u)
    unfold ParQ at HPA
    rw [HLB.out] at HPA
    clear hb3 HFO C2
    go_wp2_with fail
    refine HPA.out.mono ?_
    rintro e w4 ⟨sl, rfl, hml, hb4⟩
    have C4 := (hb4.block _ (lt_of_at C3)).trans C3
    have HB4 := hid (HB3.out.trans (hb4.mono HB3.out.size))
    have HML := hid hml
    clear hb4 HPA C3 hml
    have hn1 := cmB_ne c sl
    have hA4 : (w4.alloc (.cells (cmB cm0 s0) 33)).heap[w4.heap.size]? = some (.cells (cmB cm0 s0) 33 (0, 0)) := alloc_at _ _
    have hl4 := lt_of_at C4
    go_upto_region 22 with (first | (refine wpList_store_row rfl 33 (.tmp 11) (.tmp 76) rfl w4.heap.size (cmB c sl) (by simp [Act.eval]) (by simp [Act.eval]) _ _ hA4 (infoC' _ _) (cmB_sizes _ _ _ _) (cmB_ones _ _) ?_))
    refine wp_name ?_
    intro w5 hw5
    have C5 : w5.heap[w1.heap.size]? = some (.cells (cmB c s0) 33 (0, 0)) := by
      rw [hw5]; exact setRow_ne (by omega) (alloc_at_lt C4 _) _
    have D5 : w5.heap[w4.heap.size]? = some (.cells (cmB c sl) 33 (0, 0)) := by
      rw [hw5]; exact setRow_at hA4 _
    have b5 : Below w4.heap.size w4 w5 := by rw [hw5]; exact below_setRow (below_alloc (Below.refl _ _) _) (Nat.le_refl _) _
    have HX5 := hid b5
    have HB5 := hid (HB4.out.trans (b5.mono HB4.out.size))
    have HS : Hid (∀ X, Below w5.heap.size w5 X → Calls Tryz.prog 11 #[.agg (cmB c s0), .agg (cmB c sl)] X fun e w' => e = .returned (.bool true) ∧ Below X.heap.size X w') := fun X hb => same_cmd (HCL.out X) ((HML.out.below (HX5.out.trans (hb.mono HX5.out.size))).sl)
    clear hw5 hA4 b5
    have C5d : w5.drew.heap[w1.heap.size]? = some (.cells (cmB c s0) 33 (0, 0)) := C5
    have D5d : w5.drew.heap[w4.heap.size]? = some (.cells (cmB c sl) 33 (0, 0)) := D5
    have E0 : Hid (Below w5.heap.size w5 w5.drew) := (Below.refl _ _).drew
    have hv1 : ∀ lx_ : Lat w5.heap.size w5, (loadVar 33 ⟨w1.heap.size, 0, none⟩).run Tryz.prog lx_.w = .ok (.agg (cmB c s0)) lx_.w := fun lx_ => ldV ((lx_.h.block _ (lt_of_at C5)).trans C5)
    have hv2 : ∀ lx_ : Lat w5.heap.size w5, (loadVar 33 ⟨w4.heap.size, 0, none⟩).run Tryz.prog lx_.w = .ok (.agg (cmB c sl)) lx_.w := fun lx_ => ldV ((lx_.h.block _ (lt_of_at D5)).trans D5)
    clear C5 D5 C5d D5d C4 E0
    refine wp_region_lat (by kernel_rfl) (by kernel_rfl) ?_
    repeat (first | go_big_quiet_step (first | (go_at_call_of 12 (Value.agg (cmB c s0)); exact lat_of (Nat.le_refl _) (plain_any c s0 _)) | (go_at_call_of 12 (Value.agg (cmB c sl)); exact lat_of (Nat.le_refl _) (plain_any c sl _)) | (go_at_call 11; exact lat_of (Nat.le_refl _) (HS.out _ (Lat.h _)))) | (go_big_quiet_want; refine quiet_load_row 33 (.tmp 5) rfl w1.heap.size (by simp [Act.eval]) (cmB c s0) hv1 ?_; go_simp; go_big_quiet_on) | (go_big_quiet_want; refine quiet_load_row 33 (.tmp 11) rfl w4.heap.size (by simp [Act.eval]) (cmB c sl) hv2 ?_; go_simp; go_big_quiet_on))
    refine wpQuiet_nil ?_
    rintro w6 ⟨x6, hx6⟩
    have hb6 := x6.h
    rw [← hx6] at hb6
    have HB6 := hid (HB5.out.trans (hb6.mono HB5.out.size))
    clear hx6 x6 hv1 hv2 hb6
    go_wp2_with fail
    go_ret
    exact ⟨rfl, HB6.out⟩
  · have hng : ¬ (1 ≤ n ∧ n ≤ 1000) := hfit
    rw [decide_eq_false hfit] at HF
    have HPR := hid (print_unf (w := wr) (c := c) (s := s0) HF (HCL.out wr))
    have HFF := hid HF
    unfold PrQ at HPR
    rw [print_no HF] at HPR
    have hfb : (decide (1 ≤ n) && decide (n ≤ 1000)) = false := by rw [← Bool.decide_and]; exact decide_eq_false hfit
    clear hc hfit HF
    by_cases hl : 1 ≤ n
    · have hh : ¬ n ≤ 1000 := fun h => hng ⟨hl, h⟩
      clear hng hfb
      go_wp2_with (first | (refine wpList_load_row rfl 33 (.tmp 5) rfl w1.heap.size (by simp [Act.eval, Act.put]) _ _ _ _ C0 Tryz.underlying33 rfl (infoC' _ _) ?_))
      refine HPR.out.mono ?_
      rintro e w2 ⟨rfl, hb2⟩
      have C2 := (hb2.block _ (lt_of_at C0)).trans C0
      have HB2 := hid (HB.out.trans (hb2.mono HB.out.size))
      have HFO := hid (oformed_any (HCL.out w2))
      rw [HFF.out] at HFO
      clear hb2 HPR C0
      go_wp2_with (first | (refine wpList_load_row_g (by rfl) 33 (.tmp 5) rfl w1.heap.size (by simp [Act.eval, Act.put]) _ _ _ _ C2 Tryz.underlying33 rfl (infoC' _ _) ?_))
      refine HFO.out.mono ?_
      rintro e w3 ⟨rfl, hb3⟩
      have HB3 := hid (HB2.out.trans (hb3.mono HB2.out.size))
      clear hb3 HFO C2
      go_wp2_with fail
      go_ret
      exact ⟨rfl, HB3.out⟩
    · clear hng hfb
      go_wp2_with (first | (refine wpList_load_row rfl 33 (.tmp 5) rfl w1.heap.size (by simp [Act.eval, Act.put]) _ _ _ _ C0 Tryz.underlying33 rfl (infoC' _ _) ?_))
      refine HPR.out.mono ?_
      rintro e w2 ⟨rfl, hb2⟩
      have C2 := (hb2.block _ (lt_of_at C0)).trans C0
      have HB2 := hid (HB.out.trans (hb2.mono HB.out.size))
      have HFO := hid (oformed_any (HCL.out w2))
      rw [HFF.out] at HFO
      clear hb2 HPR C0
      go_wp2_with (first | (refine wpList_load_row_g (by rfl) 33 (.tmp 5) rfl w1.heap.size (by simp [Act.eval, Act.put]) _ _ _ _ C2 Tryz.underlying33 rfl (infoC' _ _) ?_))
      refine HFO.out.mono ?_
      rintro e w3 ⟨rfl, hb3⟩
      have HB3 := hid (HB2.out.trans (hb3.mono HB2.out.size))
      clear hb3 HFO C2
      go_wp2_with fail
      go_ret
      exact ⟨rfl, HB3.out⟩
end
end Go.Proofs.YtidcbcljeofooaaGreatDoor
