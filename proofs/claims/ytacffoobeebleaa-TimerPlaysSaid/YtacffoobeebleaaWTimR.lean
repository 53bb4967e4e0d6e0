/- TimerRings' walk: each alarm rings once, at the first Due that isn't ahead of its tick, and what rings together rings in order. -/
import Derived.Test.YtacffoobeebleaaWTimS
namespace Go.Proofs.Ytacffoobeebleaa
open Go.RowKit
set_option maxHeartbeats 1000000 in
theorem before_any (s t : ByteArray) (a b : Int) (w : World) :
    Calls Try.prog 14 #[.agg #[.string s, .int .i64 a], .agg #[.string t, .int .i64 b]] w fun e w' => e = .returned (.bool (ltA (s, a) (t, b))) ∧ Below w.heap.size w w' := by
  rcases Int.lt_trichotomy a b with hab | hab | hab
  · go_enter Try.func14, Try.ntmps14
    go_wp2
    all_goals
      go_ret
      exact ⟨by simp [ltA, hab], (by repeat (first | with_reducible assumption | with_reducible exact Below.refl _ _ | with_reducible refine Below.drew ?_ | with_reducible refine below_drewN ?_ _ | with_reducible refine below_alloc ?_ _ | with_reducible refine Below.alloc ?_ (by first | omega | (simp; done) | (simp; omega)) _ | with_reducible refine Below.setCell ?_ (by first | omega | (simp; done) | (simp; omega)) _ | with_reducible refine below_setRow ?_ (by first | omega | (simp; done) | (simp; omega)) _))⟩
  · subst hab
    go_enter Try.func14, Try.ntmps14
    go_wp2
    all_goals
      go_ret
      exact ⟨by simp [ltA, ltS], (by repeat (first | with_reducible assumption | with_reducible exact Below.refl _ _ | with_reducible refine Below.drew ?_ | with_reducible refine below_drewN ?_ _ | with_reducible refine below_alloc ?_ _ | with_reducible refine Below.alloc ?_ (by first | omega | (simp; done) | (simp; omega)) _ | with_reducible refine Below.setCell ?_ (by first | omega | (simp; done) | (simp; omega)) _ | with_reducible refine below_setRow ?_ (by first | omega | (simp; done) | (simp; omega)) _))⟩
  · have h1 : ¬ a < b := by omega
    have h2 : ¬ a = b := by omega
    go_enter Try.func14, Try.ntmps14
    go_wp2
    all_goals
      go_ret
      exact ⟨by simp [ltA, h1, h2], (by repeat (first | with_reducible assumption | with_reducible exact Below.refl _ _ | with_reducible refine Below.drew ?_ | with_reducible refine below_drewN ?_ _ | with_reducible refine below_alloc ?_ _ | with_reducible refine Below.alloc ?_ (by first | omega | (simp; done) | (simp; omega)) _ | with_reducible refine Below.setCell ?_ (by first | omega | (simp; done) | (simp; omega)) _ | with_reducible refine below_setRow ?_ (by first | omega | (simp; done) | (simp; omega)) _))⟩
/-- The clock at the k-th Due: what is left is later than the last one. -/
structure RingI (k : Nat) (n : Nat) (rung : Nat) (l : List Al) : Prop where
  late : ∀ x ∈ l, (if k = 0 then (-40000 : Int) else -32768 + 4096 * (k - 1 : Int)) < x.2
  early : ∀ x ∈ l, x.2 ≤ 32767
  len : rung + l.length = n
theorem RingI.step {k n rung : Nat} {l out l' : List Al} (h : RingI k n rung l) (d : DueR (-32768 + 4096 * (k : Int)) l out l') : RingI (k + 1) n (rung + out.length) l' := by
  refine ⟨fun x hx => ?_, fun x hx => h.early x ((d.left_iff x).1 hx).1, by have := h.len; have := d.len; omega⟩
  have := ((d.left_iff x).1 hx).2
  rw [if_neg (by omega)]
  omega
set_option maxRecDepth 20000 in
set_option maxHeartbeats 8000000 in
theorem timerRings_any (A : Option Addr) (n cap : Nat) (ls : List ByteArray) (A' : Option Addr) (n' cap' : Nat) (lu : List Int) (w : World) (hs : Sl1 mkS (fun s => s.size ≤ maxLen) w A n ls) (hu : Sl1 mkH (fun x => -32768 ≤ x ∧ x ≤ 32767) w A' n' lu) :
    Calls Try.prog 3 #[.slice A n cap, .slice A' n' cap'] w fun e w' => e = .returned (.bool true) ∧ Below w.heap.size w w' := by
  have HS := hid hs
  have HU := hid hu
  clear hs hu
  go_enter Try.func3, Try.ntmps3
  go_wp2_with fail
  refine (awake_any w).mono ?_
  rintro e w1 ⟨rfl, hb1⟩
  have B1 := hid hb1
  clear hb1
  by_cases hn : n ≤ 300
  · have hni : ¬ (300 : Int) < (n : Int) := by omega
    have HN : Hid (n ≤ 300) := hn
    go_wp2_with fail
    refine (new_any w1).mono ?_
    rintro e w2 ⟨rfl, hb2, k2⟩
    have B2 := hid (B1.out.trans (hb2.mono B1.out.size))
    have K2 := hid k2
    have Z : Hid (w.heap.size ≤ w1.heap.size) := B1.out.size
    clear hb2 k2
    by_cases hn' : n' = 0
    · subst hn'
      go_wp2
      go_ret
      exact ⟨rfl, B2.out⟩
    · have hni' : ((n' : Int) == 0) = false := by simp [hn']
      obtain ⟨c, hc⟩ : ∃ c, c = w1.heap.size := ⟨_, rfl⟩
      obtain ⟨Bs, hBs⟩ : ∃ c, c = w1.heap.size := ⟨_, rfl⟩
      have K2' : Hid (Clk Bs w2 c (.slice none 0 0) none []) := by rw [hBs, hc]; exact K2.out
      rw [← hBs] at Z
      rw [← hc]
      clear hc hBs K2 B1
      go_wp2
      go_loopw [6] (fun i wr => ∃ k : Nat, k ≤ n ∧ i = .int .i64 k ∧ Hid (∃ v m l, Clk Bs wr c v m l ∧ (∀ x ∈ l, -32768 ≤ x.2 ∧ x.2 ≤ 32767) ∧ Below w.heap.size w wr)) (fun i _ => n - (intOf i).toNat)
      case atStart => exact ⟨0, Nat.zero_le _, rfl, _, _, _, K2'.out, (fun _ h => nomatch h), B2.out⟩
      case round =>
        obtain ⟨k, hk, rfl, hh⟩ := hrel
        by_cases hkl : k < n
        · have hki : (k : Int) < (n : Int) := by omega
          obtain ⟨v, m, l, kc, hbd, bel⟩ := hh.out
          obtain ⟨b0, off0, rfl, s, hsz, hcsW⟩ := HS.out.cell hkl
          have hr : k % n' < n' := Nat.mod_lt _ (by omega)
          obtain ⟨b1, off1, rfl, u, hub, hcuW⟩ := HU.out.cell hr
          obtain ⟨r, hrr⟩ : ∃ r, r = k % n' := ⟨_, rfl⟩
          rw [← hrr] at hcuW hr
          have hri : (r : Int) < (n' : Int) := by omega
          have iwm : (k : Int).tmod (n' : Int) = (r : Int) := by rw [hrr, Int.tmod_eq_emod_of_nonneg (by omega)]; rfl
          have hrk : r ≤ k := by rw [hrr]; exact Nat.mod_le _ _
          have iwr : IntKind.i64.wrap (r : Int) = (r : Int) := IntWalk.i64_in _ (by have := HN.out; omega)
          have iwu : IntKind.i64.wrap u = u := IntWalk.i64_in _ (by omega)
          have hnz : ¬ (n' : Int) = 0 := by omega
          have e0 : ∀ lx_ : Lat wr.heap.size wr, lx_.w.cell? ⟨b0, off0 + k, none⟩ = some (.string s) := fun lx_ => hcsW _ (bel.trans (lx_.h.mono bel.size))
          have e1 : ∀ lx_ : Lat wr.heap.size wr, lx_.w.cell? ⟨b1, off1 + r, none⟩ = some (.int .i16 u) := fun lx_ => hcuW _ (bel.trans (lx_.h.mono bel.size))
          have KC := hid kc
          have HBD := hid hbd
          have BEL := hid bel
          have HSZ := hid hsz
          have HUB := hid hub
          have HK : Hid (k + 1 ≤ n) := hkl
          clear kc hbd bel hsz hub hrr hk hkl hn' hcsW hcuW
          go_upto_region 9 with fail
          refine wp_region_lat_tail 13 (by kernel_rfl) (by kernel_rfl) ?_
          simp only [List.take_succ_cons, List.take_zero, List.drop_succ_cons, List.drop_zero]
          repeat (go_big_quiet_step (fail))
          refine wpQuiet_nil ?_
          clear e0 e1
          rintro w3 ⟨x3, hx3⟩
          have hb3 := x3.h
          rw [← hx3] at hb3
          have K3 := hid (KC.out.below hb3)
          have B3 := hid (BEL.out.trans (hb3.mono BEL.out.size))
          clear hx3 x3 hb3
          go_wp2_with fail
          refine (set_any Bs c v m l s u w3 K3.out HSZ.out).mono ?_
          rintro e w4 ⟨rfl, v4, m4, l4, k4, q4, t4, f4⟩
          have H4 : Hid (∃ v m l, Clk Bs w4 c v m l ∧ (∀ x ∈ l, -32768 ≤ x.2 ∧ x.2 ≤ 32767) ∧ Below w.heap.size w w4) := ⟨_, _, _, k4, setR_bound HBD.out HUB.out q4, B3.out.trans ((t4.below (B := Bs) K3.out.le (fun k hk => (K3.out.foot hk).1)).mono Z.out)⟩
          have iw5 : IntKind.i64.wrap ((k : Int) + 1) = (k : Int) + 1 := IntWalk.i64_in _ (by have := HN.out; have := HK.out; omega)
          clear k4 q4 t4 f4 iwm iwr iwu
          go_wp2
          go_roundw
          case rel => exact ⟨k + 1, HK.out, by go_num, H4.out⟩
          case measure => have := HK.out; simp [intOf]; omega
        · obtain rfl : k = n := by omega
          obtain ⟨v, m, l0, kc, hbd, bel⟩ := hh.out
          have KC := hid kc
          have HBD := hid hbd
          have BEL := hid bel
          clear kc hbd bel hh hkl hk
          go_wp2_with fail
          refine (lenc_any Bs c v m l0 wr KC.out).mono ?_
          rintro e w5 ⟨rfl, hb5⟩
          have K5 := hid (KC.out.below hb5)
          have B5 := hid (BEL.out.trans (hb5.mono BEL.out.size))
          have R5 : Hid (RingI 0 l0.length 0 l0) := ⟨fun x hx => by have := (HBD.out x hx).1; simp; omega, fun x hx => (HBD.out x hx).2, by omega⟩
          have HL0 : Hid (l0.length ≤ 1024) := KC.out.len
          clear hb5
          go_wp2
          go_loopw [7, 9, 10] (fun sr sl sn wr => ∃ (k rung : Nat), k ≤ 17 ∧ sr = .int .i64 rung ∧ sn = .int .i64 (-32768 + 4096 * (k : Int)) ∧ sl = .int .i64 (if k = 0 then -40000 else -32768 + 4096 * (k - 1 : Int)) ∧ Hid (∃ v m l, Clk Bs wr c v m l ∧ RingI k l0.length rung l ∧ Below w.heap.size w wr)) (fun _ _ sn _ => (40000 - intOf sn).toNat)
          case atStart => exact ⟨0, 0, by omega, rfl, rfl, rfl, _, _, _, K5.out, R5.out, B5.out⟩
          case round =>
            obtain ⟨j, rung, hj, rfl, rfl, rfl, hh⟩ := hrel
            obtain ⟨v7, m7, l7, k7, r7, b7⟩ := hh.out
            have K7 := hid k7
            have R7 := hid r7
            have B7 := hid b7
            clear k7 r7 b7 hh
            by_cases hjl : j ≤ 16
            · obtain ⟨nw, hnw⟩ : ∃ x : Int, x = -32768 + 4096 * (j : Int) := ⟨_, rfl⟩
              obtain ⟨la, hla⟩ : ∃ x : Int, x = (if j = 0 then (-40000 : Int) else -32768 + 4096 * (j - 1 : Int)) := ⟨_, rfl⟩
              have HNW := hid hnw
              have HLA := hid hla
              rw [← hnw, ← hla]
              have hji : nw ≤ 32768 := by omega
              have hnl : -32768 ≤ nw := by omega
              have HJ : Hid (j ≤ 16) := hjl
              clear hnw hla hj hjl
              go_wp2_with fail
              refine (due_any Bs c v7 m7 l7 nw wr K7.out).mono ?_
              rintro e w8 ⟨vo, v8, m8, out, l8, rfl, d8, r8⟩
              have hrow := d8.row
              obtain ⟨Ao, capo, rfl⟩ := row_slice d8.row
              have K8 := hid d8.clk
              have D8 := hid r8
              have RW := hid hrow
              have B8 := hid (B7.out.trans ((d8.tur.below (B := Bs) K7.out.le (fun k hk => (K7.out.foot hk).1)).mono Z.out))
              have R8 : Hid (RingI (j + 1) l0.length (rung + out.length) l8) := R7.out.step (by rw [← HNW.out]; exact r8)
              have hro : rung + out.length ≤ 1024 := by have := R8.out.len; have := HL0.out; omega
              have HRO := hid hro
              obtain ⟨w7, hw7⟩ : ∃ x, x = wr := ⟨_, rfl⟩
              rw [← hw7] at RW
              clear d8 r8 hrow hro hw7
              go_wp2
              go_loopw [12] (fun i wx => ∃ q : Nat, q ≤ out.length ∧ i = .int .i64 q ∧ Hid (Below w8.heap.size w8 wx)) (fun i _ => out.length - (intOf i).toNat)
              case atStart => exact ⟨0, Nat.zero_le _, rfl, Below.refl _ _⟩
              case round =>
                obtain ⟨q, hq, rfl, hbq⟩ := hrel
                by_cases hql : q < out.length
                · have hqi : (q : Int) < (out.length : Int) := by omega
                  have HQ : Hid (q + 1 ≤ out.length) := hql
                  obtain ⟨g, cp, hv, -, hgl, hcell⟩ := row_cells RW.out (by omega)
                  cases hv
                  obtain ⟨xc0, xc1⟩ := hcell q hql
                  have hmx := (D8.out.out_iff _).1 (el_mem hql)
                  have hlate := R7.out.late _ hmx.1
                  rw [← HLA.out] at hlate
                  obtain ⟨⟨xs, xa⟩, hx⟩ : ∃ x, x = el out q := ⟨_, rfl⟩
                  have HXE := hid hx
                  rw [← hx] at xc0 xc1 hmx hlate
                  have hx1 : ¬ nw < xa := by have := hmx.2; simp at this; omega
                  have hx2 : ¬ xa ≤ la := by simp at hlate; omega
                  have g1 : g < wr.heap.size := by have := hbq.out.size; omega
                  have y0 : wr.cell? ⟨g, q * 2 + 1, none⟩ = some (.int .i64 xa) := (hbq.out.cell (p := ⟨g, q * 2 + 1, none⟩) hgl).trans xc1
                  have iw5 : IntKind.i64.wrap ((q : Int) + 1) = (q : Int) + 1 := IntWalk.i64_in _ (by have := HRO.out; omega)
                  have x0 : ∀ lx_ : Lat wr.heap.size wr, lx_.w.cell? ⟨g, q * 2, none⟩ = some (.string xs) := fun lx_ => by rw [lx_.cell _ _ g1]; exact (hbq.out.cell (p := ⟨g, q * 2, none⟩) hgl).trans xc0
                  have x1 : ∀ lx_ : Lat wr.heap.size wr, lx_.w.cell? ⟨g, q * 2 + 1, none⟩ = some (.int .i64 xa) := fun lx_ => by rw [lx_.cell _ _ g1]; exact (hbq.out.cell (p := ⟨g, q * 2 + 1, none⟩) hgl).trans xc1
                  have HCELL := hid hcell
                  have HQL := hid hql
                  clear hx xc0 xc1 hmx hlate hcell hq
                  rcases Nat.eq_zero_or_pos q with hq0 | hq0
                  · subst hq0
                    clear hql
                    go_upto_region 22 with fail
                    clear y0
                    refine wp_region_lat (by kernel_rfl) (by kernel_rfl) ?_
                    repeat (go_big_quiet_step (fail))
                    clear x0 x1
                    refine wpQuiet_nil ?_
                    rintro wy ⟨xy_, hxy⟩
                    have hby := xy_.h
                    rw [← hxy] at hby
                    have HBY : Hid (Below w8.heap.size w8 wy) := hbq.out.trans (hby.mono hbq.out.size)
                    clear hxy xy_ hby
                    go_wp2
                    go_roundw
                    case rel => exact ⟨0 + 1, HQ.out, by go_num, HBY⟩
                    case measure => have := HQ.out; simp [intOf]; omega
                  · obtain ⟨p, hp⟩ : ∃ p, p = q - 1 := ⟨_, rfl⟩
                    have hpl : p < out.length := by omega
                    have hpi : (p : Int) < (out.length : Int) := by omega
                    have iwp : IntKind.i64.wrap ((q : Int) - 1) = (p : Int) := by rw [show (q : Int) - 1 = (p : Int) by omega]; exact IntWalk.i64_in _ (by have := HRO.out; omega)
                    have hq1 : (0 : Int) < (q : Int) := by omega
                    obtain ⟨zc0, zc1⟩ := HCELL.out p hpl
                    have hlt : ltA (el out p) (el out q) = true := by
                      have := List.pairwise_iff_getElem.1 D8.out.sorted p q hpl hql (by omega)
                      rw [el_eq hpl, el_eq hql]; exact this
                    obtain ⟨⟨zs, za⟩, hz⟩ : ∃ x, x = el out p := ⟨_, rfl⟩
                    rw [← hz] at zc0 zc1 hlt
                    rw [← HXE.out] at hlt
                    have HBF : Hid (∀ W, Calls Try.prog 14 #[.agg #[.string zs, .int .i64 za], .agg #[.string xs, .int .i64 xa]] W fun e w' => e = .returned (.bool true) ∧ Below W.heap.size W w') := fun W => by
                      have := before_any zs xs za xa W
                      rw [hlt] at this; exact this
                    have z0 : ∀ lx_ : Lat wr.heap.size wr, lx_.w.cell? ⟨g, p * 2, none⟩ = some (.string zs) := fun lx_ => by rw [lx_.cell _ _ g1]; exact (hbq.out.cell (p := ⟨g, p * 2, none⟩) hgl).trans zc0
                    have z1 : ∀ lx_ : Lat wr.heap.size wr, lx_.w.cell? ⟨g, p * 2 + 1, none⟩ = some (.int .i64 za) := fun lx_ => by rw [lx_.cell _ _ g1]; exact (hbq.out.cell (p := ⟨g, p * 2 + 1, none⟩) hgl).trans zc1
                    clear hz hlt hp hpl zc0 zc1 hql
                    go_upto_region 22 with fail
                    clear y0
                    refine wp_region_lat (by kernel_rfl) (by kernel_rfl) ?_
                    repeat (go_big_quiet_step ((go_at_call 14; exact lat_of (Nat.le_refl _) (HBF.out _))))
                    clear x0 x1 z0 z1
                    refine wpQuiet_nil ?_
                    rintro wy ⟨xy_, hxy⟩
                    have hby := xy_.h
                    rw [← hxy] at hby
                    have HBY : Hid (Below w8.heap.size w8 wy) := hbq.out.trans (hby.mono hbq.out.size)
                    clear hxy xy_ hby
                    go_wp2
                    go_roundw
                    case rel => exact ⟨q + 1, HQ.out, by go_num, HBY⟩
                    case measure => have := HQ.out; simp [intOf]; omega
                · obtain rfl : q = out.length := by omega
                  have HB9 : Hid (Below w.heap.size w wr) := B8.out.trans (hbq.out.mono B8.out.size)
                  have HK9 : Hid (∃ v m l, Clk Bs wr c v m l ∧ RingI (j + 1) l0.length (rung + out.length) l ∧ Below w.heap.size w wr) := ⟨_, _, _, K8.out.below hbq.out, R8.out, HB9.out⟩
                  have iwa : IntKind.i64.wrap ((rung : Int) + (out.length : Int)) = ((rung + out.length : Nat) : Int) := by rw [show (rung : Int) + (out.length : Int) = ((rung + out.length : Nat) : Int) by omega]; exact IntWalk.i64_in _ (by have := HRO.out; omega)
                  have iwb : IntKind.i64.wrap (nw + 4096) = nw + 4096 := IntWalk.i64_in _ (by omega)
                  clear hql hq
                  go_wp2
                  go_roundw
                  case rel => exact ⟨j + 1, rung + out.length, by have := HJ.out; omega, rfl, by have := HNW.out; congr 1; omega, by rw [if_neg (by omega)]; have := HNW.out; congr 1; omega, HK9.out⟩
                  case measure => simp [intOf]; omega
            · obtain rfl : j = 17 := by omega
              obtain rfl : l7 = [] := List.eq_nil_iff_forall_not_mem.2 (fun x hx => by
                have h1 := R7.out.late x hx
                have h2 := R7.out.early x hx
                rw [if_neg (by omega)] at h1
                omega)
              have hrn := R7.out.len
              simp only [List.length_nil, Nat.add_zero] at hrn
              subst hrn
              clear hj hjl
              go_wp2_with fail
              refine (lenc_any Bs c v7 m7 [] wr K7.out).mono ?_
              rintro e w9 ⟨rfl, hb9⟩
              rw [show (Value.int .i64 ((([] : List Al).length : Nat) : Int)) = .int .i64 0 from rfl]
              have B9 := hid (B7.out.trans (hb9.mono B7.out.size))
              clear hb9
              go_wp2
              go_ret
              exact ⟨rfl, B9.out⟩
  · have hni : (300 : Int) < (n : Int) := by omega
    go_wp2_with fail
    refine (awake_any w1).mono ?_
    rintro e w2 ⟨rfl, hb2⟩
    have B2 := B1.out.trans (hb2.mono B1.out.size)
    go_wp2
    go_ret
    exact ⟨rfl, B2⟩
end Go.Proofs.Ytacffoobeebleaa
