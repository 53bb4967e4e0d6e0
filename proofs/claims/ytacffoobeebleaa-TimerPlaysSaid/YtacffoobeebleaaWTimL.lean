/- TimerLatest's walk: an alarm that is set again is there once, at the latest tick, and a cancelled one never rings. -/
import Derived.Test.YtacffoobeebleaaTimB
import Derived.Laws.StructEq
namespace Go.Proofs.Ytacffoobeebleaa
open Go.RowKit
theorem str_ne {x s : ByteArray} (h : ¬ x = s) : (x.toList == s.toList) = false := by
  rw [Go.Lib.toList_data, Go.Lib.toList_data]
  simp only [beq_eq_false_iff_ne, ne_eq]
  exact fun e => h (Go.WideShapes.bytes_inj e)
theorem partA0 (s : ByteArray) (a : Int) (w : World) : (part 9 #[.string s, .int .i64 a] 0).run Try.prog w = .ok (.string s) w := by kernel_rfl
theorem partA1 (s : ByteArray) (a : Int) (w : World) : (part 2 #[.string s, .int .i64 a] 1).run Try.prog w = .ok (.int .i64 a) w := by kernel_rfl
theorem eqAl (s t : ByteArray) (a b : Int) (w : World) : (Op.equalIn 10000 34 (.agg #[.string s, .int .i64 a]) (.agg #[.string t, .int .i64 b])).run Try.prog w = .ok (s.toList == t.toList && a == b) w := by
  rw [run_equalIn_struct w 9999 34 _ _ (by kernel_rfl) (by kernel_rfl)]
  unfold Program.fieldsOf
  rw [Try.underlying34]
  have h1 : ∀ w, (Op.equalIn 9999 9 (.string s) (.string t)).run Try.prog w = .ok (s.toList == t.toList) w := fun w => run_equalIn_string w 9998 9 s t Try.underlying9
  have h2 : ∀ w, (Op.equalIn 9999 2 (.int .i64 a) (.int .i64 b)).run Try.prog w = .ok (a == b) w := fun w => run_equalIn_int w 9998 2 .i64 .i64 a b Try.underlying2
  simp only [Op.eqFields, Sem.run_ite, Sem.run_bind, partA0, partA1, Result.andThen_ok, h1, h2]
  cases (s.toList == t.toList) <;> cases (a == b) <;> simp
theorem hasN_mem (l : List Al) (s : ByteArray) : hasN l s = true ↔ ∃ x, x ∈ l ∧ x.1 = s := by
  unfold hasN
  rw [List.any_eq_true]
  simp
theorem hasN_not {l : List Al} {s : ByteArray} (h : ∀ x, x ∈ l → x.1 ≠ s) : hasN l s = false := by
  cases e : hasN l s with
  | false => rfl
  | true =>
    obtain ⟨x, hx, hs⟩ := (hasN_mem l s).1 e
    exact absurd hs (h x hx)
/-- The clock behind the three Sets. -/
theorem three_sets {s r : ByteArray} {a b c : Int} {l2 l3 : List Al} (hsr : s ≠ r) (h2 : SetR [(s, a)] r c l2) (h3 : SetR l2 s b l3) :
    setE [(s, a)] r = 0 ∧ setE l2 s = 0 ∧ l3.length = 2 ∧ ∀ x, x ∈ l3 ↔ x = (s, b) ∨ x = (r, c) := by
  have n1 : hasN [(s, a)] r = false := hasN_not (fun x hx => by rw [List.mem_singleton] at hx; subst hx; exact hsr)
  unfold SetR at h2 h3
  rw [if_neg (fun h => absurd h.2 (by simp)), n1] at h2
  obtain ⟨q1, q2⟩ := h2
  have n2 : hasN l2 s = true := (hasN_mem l2 s).2 ⟨(s, a), (q2 _).2 (.inr ⟨by simp, hsr⟩), rfl⟩
  rw [if_neg (fun h => absurd h.1 (by rw [n2]; decide)), n2] at h3
  obtain ⟨q3, q4⟩ := h3
  refine ⟨by unfold setE; rw [if_neg (fun h => absurd h.2 (by simp))], by unfold setE; rw [if_neg (fun h => absurd h.1 (by rw [n2]; decide))], by simpa using q3.trans (by simpa using q1), fun x => ?_⟩
  rw [q4, q2]
  constructor
  · rintro (h | ⟨h | ⟨h, -⟩, hne⟩)
    · exact .inl h
    · exact .inr h
    · rw [List.mem_singleton] at h; subst h; exact absurd rfl hne
  · rintro (h | h)
    · exact .inl h
    · subst h; exact .inr ⟨.inl rfl, Ne.symm hsr⟩
theorem two_cancel {s r : ByteArray} {b c : Int} {l3 l4 : List Al} (hsr : s ≠ r) (hl : l3.length = 2) (hm : ∀ x, x ∈ l3 ↔ x = (s, b) ∨ x = (r, c)) (h : CancelR l3 r l4) : hasN l3 r = true ∧ l4 = [(s, b)] := by
  have n1 : hasN l3 r = true := (hasN_mem l3 r).2 ⟨(r, c), (hm _).2 (.inr rfl), rfl⟩
  obtain ⟨q1, q2⟩ := h
  rw [if_pos n1] at q1
  exact ⟨n1, one_mem (by omega) ((q2 _).2 ⟨(hm _).2 (.inl rfl), hsr⟩)⟩
theorem one_cancel {s r : ByteArray} {b : Int} {l4 : List Al} (hsr : s ≠ r) (h : CancelR [(s, b)] r l4) : hasN [((s, b) : Al)] r = false ∧ l4 = [(s, b)] := by
  have n1 : hasN [((s, b) : Al)] r = false := hasN_not (fun x hx => by rw [List.mem_singleton] at hx; subst hx; exact hsr)
  obtain ⟨q1, q2⟩ := h
  rw [n1] at q1
  exact ⟨n1, one_mem (by simpa using q1) ((q2 _).2 ⟨by simp, hsr⟩)⟩
theorem due_early {now : Int} {a : Al} {out l' : List Al} (h : DueR now [a] out l') (ha : ¬ a.2 ≤ now) : out = [] ∧ l' = [a] := by
  have hm : a ∈ l' := (h.left_iff a).2 ⟨by simp, ha⟩
  have hp : 0 < l'.length := List.length_pos_of_mem hm
  have hl := h.len
  simp only [List.length_singleton] at hl
  exact ⟨List.length_eq_zero_iff.1 (by omega), one_mem (by omega) hm⟩
set_option maxRecDepth 20000 in
set_option maxHeartbeats 8000000 in
theorem timerLatest_any (s r : ByteArray) (a b c : Int) (w : World) (hs : s.size ≤ maxLen) (hr : r.size ≤ maxLen) (hb0 : -9223372036854775808 ≤ b ∧ b ≤ 9223372036854775807) :
    Calls Try.prog 7 #[.string s, .string r, .agg #[.int .i64 a, .int .i64 b, .int .i64 c]] w fun e w' => e = .returned (.bool true) ∧ Below w.heap.size w w' := by
  have HS := hid hs
  have HR := hid hr
  have HB := hid hb0
  clear hs hr hb0
  go_enter Try.func7, Try.ntmps7
  go_upto_region 1 with fail
  refine wp_name ?_
  intro w0 hw0
  have A0 : w0.heap[w.heap.size]? = some (.cells #[.int .i64 a, .int .i64 b, .int .i64 c] 53 (0, 0)) := by rw [hw0]; exact at_of (by apply Exists.intro; refine ⟨?_, ?_⟩; (focus ((repeat (first | (with_reducible assumption) | (with_reducible exact alloc_at _ _) | ((with_reducible apply alloc_at'); (simp; done)) | (with_reducible apply alloc_at_lt) | (with_reducible apply heap_drew_at) | (with_reducible apply heap_drewN_at) | (with_reducible apply heap_setCell_same) | ((with_reducible apply heap_set_ne); (first | omega | (dsimp only; omega) | (simp; done) | (simp; omega))) | (with_reducible apply setRow_at) | ((with_reducible apply setRow_ne); (first | omega | (dsimp only; omega) | (simp; done) | (simp; omega))))))); simp)
  have B0 : Below w.heap.size w w0 := by rw [hw0]; exact (by repeat (first | with_reducible assumption | with_reducible exact Below.refl _ _ | with_reducible refine Below.drew ?_ | with_reducible refine below_drewN ?_ _ | with_reducible refine below_alloc ?_ _ | with_reducible refine Below.alloc ?_ (by first | omega | (simp; done) | (simp; omega)) _ | with_reducible refine Below.setCell ?_ (by first | omega | (simp; done) | (simp; omega)) _ | with_reducible refine below_setRow ?_ (by first | omega | (simp; done) | (simp; omega)) _))
  clear hw0
  have a0 : w0.cell? ⟨w.heap.size, 0, none⟩ = some (.int .i64 a) := (blk_cell A0 0).trans rfl
  have a1 : w0.cell? ⟨w.heap.size, 1, none⟩ = some (.int .i64 b) := (blk_cell A0 1).trans rfl
  have a2 : w0.cell? ⟨w.heap.size, 2, none⟩ = some (.int .i64 c) := (blk_cell A0 2).trans rfl
  have l0 := lt_of_at A0
  go_cut [7, 8, 9] (fun s7 s8 s9 wx => s7 = .int .i64 a ∧ s8 = .int .i64 b ∧ s9 = .int .i64 c ∧ Below w0.heap.size w0 wx)
  case first =>
    go_region
    all_goals
      go_wp2_with fail
      go_meet
      exact ⟨rfl, rfl, rfl, (by repeat (first | with_reducible assumption | with_reducible exact Below.refl _ _ | with_reducible refine Below.drew ?_ | with_reducible refine below_drewN ?_ _ | with_reducible refine below_alloc ?_ _ | with_reducible refine Below.alloc ?_ (by first | omega | (simp; done) | (simp; omega)) _ | with_reducible refine Below.setCell ?_ (by first | omega | (simp; done) | (simp; omega)) _ | with_reducible refine below_setRow ?_ (by first | omega | (simp; done) | (simp; omega)) _))⟩
  case rest =>
    obtain ⟨rfl, rfl, rfl, hb1⟩ := hcut
    obtain ⟨w1, rfl⟩ : ∃ wx_ : World, wx_ = wc := ⟨_, rfl⟩
    have B1 := hid (B0.trans (hb1.mono B0.size))
    clear A0 a0 a1 a2 B0 hb1 l0
    go_wp2_with fail
    refine (awake_any w1).mono ?_
    rintro e w2 ⟨rfl, hb2⟩
    have B2 := hid (B1.out.trans (hb2.mono B1.out.size))
    clear hb2
    by_cases hsr : s = r
    · have hE : (s.toList == r.toList) = true := by simp [hsr]
      clear hsr
      go_wp2_with fail
      refine (awake_any w2).mono ?_
      rintro e w3 ⟨rfl, hb3⟩
      have B3 := hid (B2.out.trans (hb3.mono B2.out.size))
      clear hb3
      go_wp2
      go_ret
      exact ⟨rfl, B3.out⟩
    · have hE := str_ne hsr
      have HSR := hid hsr
      clear hsr
      go_wp2_with fail
      refine (new_any w2).mono ?_
      rintro e w3 ⟨rfl, hb3, k3⟩
      have B3 := hid (B2.out.trans (hb3.mono B2.out.size))
      have K3 := hid k3
      have Z3 : Hid (w.heap.size ≤ w2.heap.size) := B2.out.size
      clear hb3 k3
      go_wp2_with fail
      refine (set_any w2.heap.size w2.heap.size _ none [] s a w3 K3.out HS.out).mono ?_
      rintro e w4 ⟨rfl, v4, m4, l4, k4, q4, t4, f4⟩
      obtain rfl := setR_nil q4
      have K4 := hid k4
      have B4 := hid (B3.out.trans ((t4.below (B := w2.heap.size) K3.out.le (fun k hk => (K3.out.foot hk).1)).mono Z3.out))
      clear k4 t4 f4 q4
      go_wp2_with fail
      refine (set_any w2.heap.size w2.heap.size v4 m4 _ r c w4 K4.out HR.out).mono ?_
      rintro e w5 ⟨rfl, v5, m5, l5, k5, q5, t5, f5⟩
      have K5 := hid k5
      have Q5 := hid q5
      have B5 := hid (B4.out.trans ((t5.below (B := w2.heap.size) K4.out.le (fun k hk => (K4.out.foot hk).1)).mono Z3.out))
      clear k5 t5 f5 q5
      go_wp2_with fail
      refine (set_any w2.heap.size w2.heap.size v5 m5 l5 s b w5 K5.out HS.out).mono ?_
      rintro e w6 ⟨rfl, v6, m6, l6, k6, q6, t6, f6⟩
      obtain ⟨-, -, hl6, hm6⟩ := three_sets HSR.out Q5.out q6
      have K6 := hid k6
      have L6 := hid hl6
      have M6 := hid hm6
      have B6 := hid (B5.out.trans ((t6.below (B := w2.heap.size) K5.out.le (fun k hk => (K5.out.foot hk).1)).mono Z3.out))
      clear k6 t6 f6 q6 hl6 hm6
      obtain ⟨x, q, hxq, hget⟩ := get_any w2.heap.size w2.heap.size v6 m6 l6 s w6 K6.out HS.out
      obtain ⟨rfl, rfl⟩ : b = x ∧ 0 = q := by
        rcases hxq with ⟨rfl, h⟩ | ⟨rfl, -, h⟩
        · rcases (M6.out _).1 h with h | h
          · exact ⟨(congrArg Prod.snd h).symm, rfl⟩
          · exact absurd (congrArg Prod.fst h) HSR.out
        · have := (hasN_mem l6 s).2 ⟨(s, b), (M6.out _).2 (.inl rfl), rfl⟩
          rw [h] at this; cases this
      have HGET := hid hget
      clear hget hxq
      go_wp2_with fail
      refine (HGET.out).mono ?_
      rintro e w7 ⟨rfl, hb7⟩
      have K7 := hid (K6.out.below hb7)
      have B7 := hid (B6.out.trans (hb7.mono B6.out.size))
      clear hb7 HGET
      go_wp2_with fail
      refine (lenc_any w2.heap.size w2.heap.size v6 m6 l6 w7 K7.out).mono ?_
      rintro e w8 ⟨rfl, hb8⟩
      rw [L6.out]
      have K8 := hid (K7.out.below hb8)
      have B8 := hid (B7.out.trans (hb8.mono B7.out.size))
      clear hb8
      go_wp2_with fail
      refine (cancel_any w2.heap.size w2.heap.size v6 m6 l6 r w8 K8.out HR.out).mono ?_
      rintro e w9 ⟨rfl, v9, m9, l9, k9, q9, t9, f9⟩
      obtain ⟨hh9, rfl⟩ := two_cancel HSR.out L6.out M6.out q9
      rw [hh9]
      have K9 := hid k9
      have B9 := hid (B8.out.trans ((t9.below (B := w2.heap.size) K8.out.le (fun k hk => (K8.out.foot hk).1)).mono Z3.out))
      clear k9 t9 f9 q9 hh9
      go_wp2_with fail
      refine (cancel_any w2.heap.size w2.heap.size v9 m9 _ r w9 K9.out HR.out).mono ?_
      rintro e wa ⟨rfl, va, ma, la, ka, qa, ta, fa⟩
      obtain ⟨hha, rfl⟩ := one_cancel HSR.out qa
      rw [hha]
      have KA := hid ka
      have BA := hid (B9.out.trans ((ta.below (B := w2.heap.size) K9.out.le (fun k hk => (K9.out.foot hk).1)).mono Z3.out))
      clear ka ta fa qa hha
      go_wp2_with fail
      refine (next_some w2.heap.size w2.heap.size va ma _ wa KA.out (by simp)).mono ?_
      rintro e wb ⟨rfl, hbb⟩
      rw [show el [((s, b) : Al)] 0 = ((s, b) : Al) from rfl]
      have KB := hid (KA.out.below hbb)
      have bB := BA.out.trans (hbb.mono BA.out.size)
      have sB := bB.size
      have BB := hid bB
      clear hbb bB
      go_upto_region 14 with fail
      refine wp_name ?_
      intro wc hwc
      have Ac : wc.heap[wb.heap.size]? = some (.cells #[.string s, .int .i64 b] 34 (0, 0)) := by rw [hwc]; exact at_of (by apply Exists.intro; refine ⟨?_, ?_⟩; (focus ((repeat (first | (with_reducible assumption) | (with_reducible exact alloc_at _ _) | ((with_reducible apply alloc_at'); (simp; done)) | (with_reducible apply alloc_at_lt) | (with_reducible apply heap_drew_at) | (with_reducible apply heap_drewN_at) | (with_reducible apply heap_setCell_same) | ((with_reducible apply heap_set_ne); (first | omega | (dsimp only; omega) | (simp; done) | (simp; omega))) | (with_reducible apply setRow_at) | ((with_reducible apply setRow_ne); (first | omega | (dsimp only; omega) | (simp; done) | (simp; omega))))))); simp)
      have hbc : Below wb.heap.size wb wc := by rw [hwc]; exact (by repeat (first | with_reducible assumption | with_reducible exact Below.refl _ _ | with_reducible refine Below.drew ?_ | with_reducible refine below_drewN ?_ _ | with_reducible refine below_alloc ?_ _ | with_reducible refine Below.alloc ?_ (by first | omega | (simp; done) | (simp; omega)) _ | with_reducible refine Below.setCell ?_ (by first | omega | (simp; done) | (simp; omega)) _ | with_reducible refine below_setRow ?_ (by first | omega | (simp; done) | (simp; omega)) _))
      clear hwc
      have KC := hid (KB.out.below hbc)
      have BC := hid (BB.out.trans (hbc.mono sB))
      have lc := lt_of_at Ac
      have HAC := hid Ac
      clear Ac hbc
      have HFT : Hid (∀ k, Foot w2.heap.size va ma k → k ≠ wb.heap.size) := fun k hk e => by
        have := (KB.out.foot hk).2
        omega
      have HWB : Hid (wb.heap.size < wc.heap.size) := lc
      by_cases hbig : b > -9000000000000000000
      · have iw : IntKind.i64.wrap (b - 1) = b - 1 := IntWalk.i64_in _ (by have := HB.out; omega)
        go_wp2_with fail
        refine (due_any w2.heap.size w2.heap.size _ _ _ (b - 1) wc KC.out).mono ?_
        rintro e wd ⟨vo, vd, md, outd, ld, rfl, dd, rd⟩
        obtain ⟨rfl, rfl⟩ := due_early rd (by show ¬ b ≤ b - 1; omega)
        obtain ⟨A, cap', rfl⟩ := row_slice dd.row
        have KD := hid dd.clk
        have BD := hid (BC.out.trans ((dd.tur.below (B := w2.heap.size) KC.out.le (fun k hk => (KC.out.foot hk).1)).mono Z3.out))
        have HAD : Hid (wd.heap[wb.heap.size]? = some (.cells #[.string s, .int .i64 b] 34 (0, 0))) := (dd.tur.kept _ HWB.out (fun hf => HFT.out _ hf rfl)).trans HAC.out
        have HFT : Hid (∀ k, Foot w2.heap.size vd md k → k ≠ wb.heap.size) := fun k hk e => by
          rcases dd.foot k hk with h | h
          · exact HFT.out k h e
          · have := HWB.out; omega
        rw [show (([] : List Al).length) = 0 from rfl]
        clear dd rd iw
        go_wp2_with fail
        refine (due_any w2.heap.size w2.heap.size _ _ _ b wd KD.out).mono ?_
        rintro e we ⟨vo, ve, me, oute, le, rfl, de, re⟩
        obtain ⟨rfl, rfl⟩ := due_one re (Int.le_refl _)
        obtain ⟨g, cap, rfl, hg, hgl, hcell⟩ := row_cells de.row (by simp)
        obtain ⟨c0, c1⟩ := hcell 0 (by simp)
        rw [show el [((s, b) : Al)] 0 = ((s, b) : Al) from rfl] at c0 c1
        simp only [Nat.zero_mul, Nat.zero_add] at c0 c1
        have BE := BD.out.trans ((de.tur.below (B := w2.heap.size) KD.out.le (fun k hk => (KD.out.foot hk).1)).mono Z3.out)
        have KE := hid de.clk
        have Ae : we.heap[wb.heap.size]? = some (.cells #[.string s, .int .i64 b] 34 (0, 0)) := (de.tur.kept _ (lt_of_at HAD.out) (fun hf => by
          have hf' := HFT.out _ hf
          have h1 := HWB.out
          exact hf' rfl)).trans HAD.out
        obtain ⟨x0, x1, xf⟩ := two Ae
        have le1 := lt_of_at Ae
        rw [show (([((s, b) : Al)] : List Al).length) = 1 from rfl]
        have HBE := hid BE
        have e0 : ∀ lx_ : Lat we.heap.size we, lx_.w.cell? ⟨g, 0, none⟩ = some (.string s) := fun lx_ => by rw [lx_.cell _ _ hgl]; exact c0
        have e1 : ∀ lx_ : Lat we.heap.size we, lx_.w.cell? ⟨g, 1, none⟩ = some (.int .i64 b) := fun lx_ => by rw [lx_.cell _ _ hgl]; exact c1
        have e2 : ∀ lx_ : Lat we.heap.size we, lx_.w.cell? ⟨wb.heap.size, 0, none⟩ = some (.string s) := fun lx_ => by rw [lx_.cell _ _ le1]; exact x0
        have e3 : ∀ lx_ : Lat we.heap.size we, lx_.w.cell? ⟨wb.heap.size, 1, none⟩ = some (.int .i64 b) := fun lx_ => by rw [lx_.cell _ _ le1]; exact x1
        have qE := fun w => eqAl s s b b w
        clear BE Ae de re hcell c0 c1 x0 x1
        go_upto_region 17 with fail
        refine wp_region_lat (by kernel_rfl) (by kernel_rfl) ?_
        repeat (go_big_quiet_step ((go_at_call 12; exact lat_of (Nat.le_refl _) (lenc_any _ _ _ _ _ _ (KE.out.below (Lat.h _))))))
        refine wpQuiet_nil ?_
        clear e0 e1 e2 e3 qE
        rintro wf ⟨xf_, hxf⟩
        have hbf := xf_.h
        rw [← hxf] at hbf
        clear hxf xf_
        go_wp2
        go_ret
        exact ⟨rfl, HBE.out.trans (hbf.mono HBE.out.size)⟩
      · have HAD := HAC
        go_wp2_with fail
        refine (due_any w2.heap.size w2.heap.size _ _ _ b wc KC.out).mono ?_
        rintro e we ⟨vo, ve, me, oute, le, rfl, de, re⟩
        obtain ⟨rfl, rfl⟩ := due_one re (Int.le_refl _)
        obtain ⟨g, cap, rfl, hg, hgl, hcell⟩ := row_cells de.row (by simp)
        obtain ⟨c0, c1⟩ := hcell 0 (by simp)
        rw [show el [((s, b) : Al)] 0 = ((s, b) : Al) from rfl] at c0 c1
        simp only [Nat.zero_mul, Nat.zero_add] at c0 c1
        have BE := BC.out.trans ((de.tur.below (B := w2.heap.size) KC.out.le (fun k hk => (KC.out.foot hk).1)).mono Z3.out)
        have KE := hid de.clk
        have Ae : we.heap[wb.heap.size]? = some (.cells #[.string s, .int .i64 b] 34 (0, 0)) := (de.tur.kept _ (lt_of_at HAD.out) (fun hf => by
          have hf' := HFT.out _ hf
          have h1 := HWB.out
          exact hf' rfl)).trans HAD.out
        obtain ⟨x0, x1, xf⟩ := two Ae
        have le1 := lt_of_at Ae
        rw [show (([((s, b) : Al)] : List Al).length) = 1 from rfl]
        have HBE := hid BE
        have e0 : ∀ lx_ : Lat we.heap.size we, lx_.w.cell? ⟨g, 0, none⟩ = some (.string s) := fun lx_ => by rw [lx_.cell _ _ hgl]; exact c0
        have e1 : ∀ lx_ : Lat we.heap.size we, lx_.w.cell? ⟨g, 1, none⟩ = some (.int .i64 b) := fun lx_ => by rw [lx_.cell _ _ hgl]; exact c1
        have e2 : ∀ lx_ : Lat we.heap.size we, lx_.w.cell? ⟨wb.heap.size, 0, none⟩ = some (.string s) := fun lx_ => by rw [lx_.cell _ _ le1]; exact x0
        have e3 : ∀ lx_ : Lat we.heap.size we, lx_.w.cell? ⟨wb.heap.size, 1, none⟩ = some (.int .i64 b) := fun lx_ => by rw [lx_.cell _ _ le1]; exact x1
        have qE := fun w => eqAl s s b b w
        clear BE Ae de re hcell c0 c1 x0 x1
        go_upto_region 17 with fail
        refine wp_region_lat (by kernel_rfl) (by kernel_rfl) ?_
        repeat (go_big_quiet_step ((go_at_call 12; exact lat_of (Nat.le_refl _) (lenc_any _ _ _ _ _ _ (KE.out.below (Lat.h _))))))
        refine wpQuiet_nil ?_
        clear e0 e1 e2 e3 qE
        rintro wf ⟨xf_, hxf⟩
        have hbf := xf_.h
        rw [← hxf] at hbf
        clear hxf xf_
        go_wp2
        go_ret
        exact ⟨rfl, HBE.out.trans (hbf.mono HBE.out.size)⟩
end Go.Proofs.Ytacffoobeebleaa
