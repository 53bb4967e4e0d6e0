/- TimerOrder's walk: what is due at once is what is due tick by tick, in the same order. -/
import Derived.Test.YtacffoobeebleaaTimR
namespace Go.Proofs.Ytacffoobeebleaa
open Go.RowKit
theorem ownsRow_mono {B B' : Nat} {w : World} {t : TypeId} {z k : Nat} {v : Value} {xs : List Value} (h : w.ownsRow B t z v k xs) (hB : B' ≤ B) : w.ownsRow B' t z v k xs := by
  obtain ⟨h3, h4 | ⟨g, cap, cur, rfl, hg, rest⟩⟩ := h
  · exact ⟨h3, .inl h4⟩
  · exact ⟨h3, .inr ⟨g, cap, cur, rfl, Nat.le_trans hB hg, rest⟩⟩
theorem Clk.mono {B B' c : Nat} {w : World} {v : Value} {m : Option Nat} {l : List Al} (h : Clk B w c v m l) (hB : B' ≤ B) : Clk B' w c v m l := by
  obtain ⟨I, h1, h2⟩ := h.st
  exact ⟨⟨I, ⟨Nat.le_trans hB h1.le, h1.blk, ownsRow_mono h1.row hB, fun b e => Nat.le_trans hB (h1.mle b e), h1.map⟩, h2⟩, h.sz, Nat.le_trans hB h.le, h.hp, h.len⟩
/-- An element of a slice that came in, later. -/
theorem Sl1.cell {α : Type} {mk : α → Value} {Pr : α → Prop} {w : World} {A : Option Addr} {n : Nat} {l : List α} (h : Sl1 mk Pr w A n l) {k : Nat} (hk : k < n) :
    ∃ b off, A = some ⟨b, off, none⟩ ∧ ∃ x, Pr x ∧ ∀ w', Below w.heap.size w w' → w'.cell? ⟨b, off + k, none⟩ = some (mk x) := by
  obtain ⟨rfl, h0 | ⟨b, off, rfl, hl, hc⟩, hp⟩ := h
  · rw [h0] at hk; simp at hk
  · exact ⟨b, off, rfl, l[k], hp _ (List.getElem_mem _), fun w' hb => (hb.cell (p := ⟨b, off + k, none⟩) hl).trans (hc k hk)⟩
theorem row_start {w : World} {t : TypeId} : w.ownsRow w.heap.size t 2 (.slice none 0 0) ([] : List Al).length (flatT []) := ⟨rfl, .inl ⟨rfl, rfl⟩⟩
set_option maxRecDepth 20000 in
set_option maxHeartbeats 8000000 in
theorem timerOrder_any (A : Option Addr) (n cap : Nat) (ls : List ByteArray) (A' : Option Addr) (n' cap' : Nat) (lu : List Int) (w : World) (hs : Sl1 mkS (fun s => s.size ≤ maxLen) w A n ls) (hu : Sl1 mkU (fun x => 0 ≤ x ∧ x ≤ 255) w A' n' lu) :
    Calls Try.prog 4 #[.slice A n cap, .slice A' n' cap'] w fun e w' => e = .returned (.bool true) ∧ Below w.heap.size w w' := by
  have HS := hid hs
  have HU := hid hu
  clear hs hu
  go_enter Try.func4, Try.ntmps4
  go_wp2_with fail
  refine (awake_any w).mono ?_
  rintro e w1 ⟨rfl, hb1⟩
  have B1 := hid hb1
  clear hb1
  by_cases hn : n ≤ 200
  · by_cases hn' : n' = 0
    · subst hn'
      have hni : ¬ (200 : Int) < (n : Int) := by omega
      go_wp2_with fail
      refine (awake_any w1).mono ?_
      rintro e w2 ⟨rfl, hb2⟩
      have B2 := B1.out.trans (hb2.mono B1.out.size)
      go_wp2
      go_ret
      exact ⟨rfl, B2⟩
    · have hni : ¬ (200 : Int) < (n : Int) := by omega
      have hni' : ((n' : Int) == 0) = false := by simp [hn']
      have HN : Hid (n ≤ 200) := hn
      have HN' : Hid (¬ n' = 0) := hn'
      go_wp2_with fail
      refine (new_any w1).mono ?_
      rintro e w2 ⟨rfl, hb2, k2⟩
      have B2 := hid (B1.out.trans (hb2.mono B1.out.size))
      have K2 := hid k2
      have HB2 := hid hb2
      clear hb2 k2
      go_wp2_with fail
      refine (new_any w2).mono ?_
      rintro e w3 ⟨rfl, hb3, k3⟩
      have B3 := hid (B2.out.trans (hb3.mono B2.out.size))
      have K3 : Hid (TwoM w1.heap.size w3 w1.heap.size w2.heap.size (.slice none 0 0) (.slice none 0 0) none none [] []) := by
        refine ⟨K2.out.below hb3, k3.mono HB2.out.size, ?_, fun _ => Iff.rfl, rfl⟩
        rintro k (rfl | h | h) (h' | h' | h')
        · have := K2.out.lt; omega
        · cases h'
        · cases h'
        · cases h
        · cases h
        · cases h
        · cases h
        · cases h
        · cases h
      have Z : Hid (w.heap.size ≤ w1.heap.size) := B1.out.size
      clear hb3 k3
      obtain ⟨ca, hca⟩ : ∃ ca, ca = w1.heap.size := ⟨_, rfl⟩
      obtain ⟨cb, hcb⟩ : ∃ cb, cb = w2.heap.size := ⟨_, rfl⟩
      rw [← hcb] at K3 ⊢
      obtain ⟨Bs, hBs⟩ : ∃ Bs, Bs = w1.heap.size := ⟨_, rfl⟩
      rw [← hBs] at Z
      have K3' : Hid (TwoM Bs w3 ca cb (.slice none 0 0) (.slice none 0 0) none none [] []) := by rw [hBs, hca]; exact K3.out
      rw [← hca]
      clear hca hcb hBs K3 K2 HB2 B2
      clear B1 w2
      go_wp2
      go_loopw [7] (fun i wr => ∃ k : Nat, k ≤ n ∧ i = .int .i64 k ∧ Hid (∃ va vb ma mb la lb, TwoM Bs wr ca cb va vb ma mb la lb ∧ (∀ x ∈ la, 0 ≤ x.2 ∧ x.2 ≤ 255) ∧ Below w.heap.size w wr)) (fun i _ => n - (intOf i).toNat)
      case atStart => exact ⟨0, Nat.zero_le _, rfl, _, _, _, _, _, _, K3'.out, (fun _ h => nomatch h), B3.out⟩
      case round =>
        obtain ⟨k, hk, rfl, hh⟩ := hrel
        by_cases hkl : k < n
        · have hki : (k : Int) < (n : Int) := by omega
          obtain ⟨va, vb, ma, mb, la, lb, tw, hbd, bel⟩ := hh.out
          obtain ⟨b0, off0, rfl, s, hsz, hcsW⟩ := HS.out.cell hkl
          have HCS := hid hcsW
          have hcs := hcsW _ bel
          have hr : k % n' < n' := Nat.mod_lt _ (by omega)
          obtain ⟨b1, off1, rfl, u, hub, hcuW⟩ := HU.out.cell hr
          have hcu := hcuW _ bel
          obtain ⟨r, hrr⟩ : ∃ r, r = k % n' := ⟨_, rfl⟩
          rw [← hrr] at hcu hr
          have hri : (r : Int) < (n' : Int) := by omega
          have iwm : (k : Int).tmod (n' : Int) = (r : Int) := by rw [hrr, Int.tmod_eq_emod_of_nonneg (by omega)]; rfl
          have hrk : r ≤ k := by rw [hrr]; exact Nat.mod_le _ _
          have iwr : IntKind.i64.wrap (r : Int) = (r : Int) := IntWalk.i64_in _ (by have := HN.out; omega)
          have iwu : IntKind.i64.wrap u = u := IntWalk.i64_in _ (by omega)
          have hnz : ¬ (n' : Int) = 0 := by omega
          unfold mkS at hcs
          unfold mkU at hcu
          have TW := hid tw
          have HBD := hid hbd
          have BEL := hid bel
          have HSZ := hid hsz
          have HUB := hid hub
          have HK : Hid (k + 1 ≤ n) := hkl
          clear tw hbd bel hsz hub hrr hk hkl hn' hcsW hcuW
          go_wp2_with fail
          refine (set_any Bs ca va ma la s u wr TW.out.a HSZ.out).mono ?_
          rintro e w4 ⟨rfl, v4, m4, l4, k4, q4, t4, f4⟩
          have bel4 := BEL.out.trans ((t4.below (B := Bs) TW.out.a.le (fun k hk => (TW.out.a.foot hk).1)).mono Z.out)
          have hcs4 : w4.cell? ⟨b0, off0 + k, none⟩ = some (.string s) := by
            have := HCS.out _ bel4
            unfold mkS at this
            exact this
          have KA := hid k4
          have QA := hid q4
          have TA := hid t4
          have FA := hid f4
          have BE4 := hid bel4
          have kb4 : Clk Bs w4 cb vb mb lb := TW.out.b.tur t4 (fun k hk hf => TW.out.apart k hf hk)
          have KB := hid kb4
          clear k4 q4 t4 f4 bel4 kb4 hcs hcu
          go_wp2_with fail
          refine (set_any Bs cb vb mb lb s u w4 KB.out HSZ.out).mono ?_
          rintro e w5 ⟨rfl, v5, m5, l5, k5, q5, t5, f5⟩
          have bel5 := BE4.out.trans ((t5.below (B := Bs) KB.out.le (fun k hk => (KB.out.foot hk).1)).mono Z.out)
          have tw5 := TW.out.set KA.out QA.out TA.out FA.out k5 q5 t5 f5
          have H5 : Hid (∃ va vb ma mb la lb, TwoM Bs w5 ca cb va vb ma mb la lb ∧ (∀ x ∈ la, 0 ≤ x.2 ∧ x.2 ≤ 255) ∧ Below w.heap.size w w5) := ⟨_, _, _, _, _, _, tw5, setR_bound HBD.out HUB.out QA.out, bel5⟩
          have iw5 : IntKind.i64.wrap ((k : Int) + 1) = (k : Int) + 1 := IntWalk.i64_in _ (by have := HN.out; have := HK.out; omega)
          clear k5 q5 t5 f5 bel5 tw5 iwm iwr iwu hcs4
          go_wp2
          go_roundw
          case rel => exact ⟨k + 1, HK.out, by go_num, H5.out⟩
          case measure => have := HK.out; simp [intOf]; omega
        · obtain rfl : k = n := by omega
          obtain ⟨va, vb, ma, mb, la, lb, tw, hbd, bel⟩ := hh.out
          obtain ⟨wr0, hwr0⟩ : ∃ x, x = wr := ⟨_, rfl⟩
          rw [← hwr0] at tw bel ⊢
          have TW := hid tw
          have HBD := hid hbd
          have BEL := hid bel
          clear tw hbd bel hh hkl hk
          clear hwr0 wr
          go_wp2_with fail
          refine (due_any Bs ca va ma la 255 wr0 TW.out.a).mono ?_
          rintro e w6 ⟨vw, v6, m6, wh, l6, rfl, d6, r6⟩
          have D6 := hid d6
          have R6 := hid r6
          have B6 := hid (BEL.out.trans ((d6.tur.below (B := Bs) TW.out.a.le (fun k hk => (TW.out.a.foot hk).1)).mono Z.out))
          have ap6 : ∀ k, Foot ca v6 m6 k → ¬ Foot cb vb mb k := fun k hk hf => by
            rcases d6.foot k hk with h | h
            · exact TW.out.apart k h hf
            · have := (TW.out.b.foot hf).2; omega
          have apw : ∀ g, vw.ownBlock = some g → ¬ Foot cb vb mb g := fun g hg hf => by
            have h1 := (d6.row.lt g hg).1
            have h2 := (TW.out.b.foot hf).2
            omega
          have KB6 := hid (TW.out.b.tur d6.tur (fun k hk hf => TW.out.apart k hf hk))
          have AP6 := hid ap6
          have APW := hid apw
          have P6 : Hid (RowM Bs w6 w6 cb vb mb (.slice none 0 0) vb mb [] lb) := ⟨KB6.out, row_start, (fun _ h => nomatch h), Tur.refl _ _, fun _ h => .inl h⟩
          have I6 : Hid (PartsI 0 lb [] lb) := ⟨.nil, fun x => ⟨(fun h => nomatch h), fun h => by have := (HBD.out x ((TW.out.mem x).2 h.1)).1; omega⟩, fun x => ⟨fun h => ⟨h, by have := (HBD.out x ((TW.out.mem x).2 h)).1; omega⟩, fun h => h.1⟩, by simp⟩
          clear d6 r6 ap6 apw
          go_wp2
          go_loopw [10, 11] (fun s i wr => ∃ (k : Nat) (vp : Value), k ≤ 256 ∧ i = .int .i64 k ∧ vp = s ∧ Hid (∃ vb' mb' parts l', RowM Bs w6 wr cb vb mb vp vb' mb' parts l' ∧ PartsI k lb parts l')) (fun _ i _ => 256 - (intOf i).toNat)
          case atStart => exact ⟨0, _, by omega, rfl, rfl, vb, mb, [], lb, P6.out, I6.out⟩
          case round =>
            obtain ⟨j, vp, hj, rfl, rfl, hh⟩ := hrel
            by_cases hjl : j ≤ 255
            · have hji : (j : Int) ≤ 255 := by omega
              obtain ⟨vb', mb', parts, l', M, I⟩ := hh.out
              have HM := hid M
              have HI := hid I
              have HJ : Hid (j ≤ 255) := hjl
              clear M I
              go_wp2_with fail
              refine (due_any Bs cb vb' mb' l' j wr HM.out.clk).mono ?_
              rintro e w7 ⟨vd, v7, m7, od, l7, rfl, d7, r7⟩
              have I8 : Hid (PartsI ((j + 1 : Nat) : Int) lb (parts ++ od) l7) := HI.out.step (by omega) (by rw [show (((j + 1 : Nat) : Int) - 1) = (j : Int) by omega]; exact r7)
              obtain ⟨v8, w8, happ, M8⟩ := HM.out.append d7 (by have := I8.out.len; have := TW.out.b.len; simp at this ⊢; have h3 : (parts ++ od).length = parts.length + od.length := List.length_append; omega) 31
              have HM8 := hid M8
              have HAPP := hid happ
              have iw5 : IntKind.i64.wrap ((j : Int) + 1) = (j : Int) + 1 := IntWalk.i64_in _ (by omega)
              clear d7 r7 M8 happ hh
              go_wp2_with (at_builtin; refine wpList_append_eq rfl _ _ _ rfl rfl rfl HAPP.out ?_)
              go_roundw
              case rel => exact ⟨j + 1, v8, by have := HJ.out; omega, by go_num, rfl, _, _, _, _, HM8.out, I8.out⟩
              case measure => have := HJ.out; simp [intOf]; omega
            · obtain rfl : j = 256 := by omega
              obtain ⟨vb', mb', parts, l', M, I⟩ := hh.out
              obtain rfl : l' = [] := List.eq_nil_iff_forall_not_mem.2 (fun x hx => by
                have h1 := (I.left_iff x).1 hx
                have h2 := (HBD.out x ((TW.out.mem x).2 h1.1)).2
                omega)
              obtain rfl : l6 = [] := List.eq_nil_iff_forall_not_mem.2 (fun x hx => by
                have h1 := (R6.out.left_iff x).1 hx
                have h2 := (HBD.out x h1.1).2
                omega)
              obtain rfl : wh = parts := sorted_eq R6.out.sorted I.sorted (fun x => by
                rw [R6.out.out_iff, I.out_iff, ← TW.out.mem]
                constructor
                · rintro ⟨h1, h2⟩; exact ⟨h1, by omega⟩
                · rintro ⟨h1, h2⟩; exact ⟨h1, (HBD.out x h1).2⟩)
              have RW : wr.ownsRow wr0.heap.size 34 2 vw wh.length (flatT wh) := ownsRow_at D6.out.row (fun g hg => M.tur.kept g (D6.out.row.lt g hg).2 (APW.out g hg))
              have CA : Clk Bs wr ca v6 m6 [] := D6.out.clk.tur M.tur (fun k hk => AP6.out k hk)
              have BR : Below w.heap.size w wr := B6.out.trans ((M.tur.below (B := Bs) KB6.out.le (fun k hk => (KB6.out.foot hk).1)).mono Z.out)
              obtain ⟨Aw, capw, rfl⟩ := row_slice RW
              obtain ⟨Ap, capp, rfl⟩ := row_slice M.row
              have HRW := hid RW
              have HRP := hid M.row
              have HCB := hid M.clk
              have HCA := hid CA
              have HBR := hid BR
              have WL : Hid (wh.length ≤ 1024) := by
                have h1 := R6.out.len
                have h2 := TW.out.a.len
                unfold Hid; simp at h1; omega
              clear M I RW CA BR hh hjl hj hn HU HN' hn' hni'
              go_wp2_with fail
              refine (lenc_any Bs ca v6 m6 [] wr HCA.out).mono ?_
              rintro e w9 ⟨rfl, hb9⟩
              rw [show (Value.int .i64 ((([] : List Al).length : Nat) : Int)) = .int .i64 0 from rfl]
              have B9 := hid (HBR.out.trans (hb9.mono HBR.out.size))
              have HB9 := hid hb9
              clear hb9
              go_wp2_with fail
              refine (lenc_any Bs cb vb' mb' [] w9 (HCB.out.below HB9.out)).mono ?_
              rintro e w10 ⟨rfl, hb10⟩
              rw [show (Value.int .i64 ((([] : List Al).length : Nat) : Int)) = .int .i64 0 from rfl]
              have B10 := hid (B9.out.trans (hb10.mono B9.out.size))
              have b910 := HB9.out.trans (hb10.mono HB9.out.size)
              have RW : Hid (w10.ownsRow wr0.heap.size 34 2 (.slice Aw wh.length capw) wh.length (flatT wh)) := ownsRow_at HRW.out (fun g hg => b910.block g (HRW.out.lt g hg).2)
              have RP : Hid (w10.ownsRow w6.heap.size 34 2 (.slice Ap wh.length capp) wh.length (flatT wh)) := ownsRow_at HRP.out (fun g hg => b910.block g (HRP.out.lt g hg).2)
              clear hb10 b910
              go_wp2
              go_loopw [12] (fun i wx => ∃ q : Nat, q ≤ wh.length ∧ i = .int .i64 q ∧ Hid (Below w10.heap.size w10 wx)) (fun i _ => wh.length - (intOf i).toNat)
              case atStart => exact ⟨0, Nat.zero_le _, rfl, Below.refl _ _⟩
              case round =>
                obtain ⟨q, hq, rfl, hbq⟩ := hrel
                by_cases hql : q < wh.length
                · have hqi : (q : Int) < (wh.length : Int) := by omega
                  have HQ : Hid (q + 1 ≤ wh.length) := hql
                  obtain ⟨g, cp, hv, -, hgl, hcell⟩ := row_cells RW.out (by omega)
                  obtain ⟨g2, cp2, hv2, -, hgl2, hcell2⟩ := row_cells RP.out (by omega)
                  cases hv
                  cases hv2
                  obtain ⟨p0, p1⟩ := hcell q hql
                  obtain ⟨r0, r1⟩ := hcell2 q hql
                  obtain ⟨⟨s, x⟩, hx⟩ : ∃ x, x = el wh q := ⟨_, rfl⟩
                  rw [← hx] at p0 p1 r0 r1
                  have hb := hbq.out
                  have s0 := hb.size
                  have g1 : g < wr.heap.size := by omega
                  have g3 : g2 < wr.heap.size := by omega
                  have e0 : ∀ lx_ : Lat wr.heap.size wr, lx_.w.cell? ⟨g, q * 2, none⟩ = some (.string s) := fun lx_ => by rw [lx_.cell _ _ g1]; exact (hb.cell (p := ⟨g, q * 2, none⟩) hgl).trans p0
                  have e1 : ∀ lx_ : Lat wr.heap.size wr, lx_.w.cell? ⟨g, q * 2 + 1, none⟩ = some (.int .i64 x) := fun lx_ => by rw [lx_.cell _ _ g1]; exact (hb.cell (p := ⟨g, q * 2 + 1, none⟩) hgl).trans p1
                  have e2 : ∀ lx_ : Lat wr.heap.size wr, lx_.w.cell? ⟨g2, q * 2, none⟩ = some (.string s) := fun lx_ => by rw [lx_.cell _ _ g3]; exact (hb.cell (p := ⟨g2, q * 2, none⟩) hgl2).trans r0
                  have e3 : ∀ lx_ : Lat wr.heap.size wr, lx_.w.cell? ⟨g2, q * 2 + 1, none⟩ = some (.int .i64 x) := fun lx_ => by rw [lx_.cell _ _ g3]; exact (hb.cell (p := ⟨g2, q * 2 + 1, none⟩) hgl2).trans r1
                  have qE : ∀ w, (Op.equalIn 10000 34 (.agg #[.string s, .int .i64 x]) (.agg #[.string s, .int .i64 x])).run Try.prog w = .ok true w := fun w => by rw [eqAl]; simp
                  have iw5 : IntKind.i64.wrap ((q : Int) + 1) = (q : Int) + 1 := IntWalk.i64_in _ (by have := WL.out; omega)
                  clear hx p0 p1 r0 r1 hcell hcell2 hb s0 hq
                  go_upto_region 21 with fail
                  refine wp_region_lat (by kernel_rfl) (by kernel_rfl) ?_
                  repeat (go_big_quiet_step (fail))
                  refine wpQuiet_nil ?_
                  clear e0 e1 e2 e3 qE
                  rintro wy ⟨xy_, hxy⟩
                  have hby := xy_.h
                  rw [← hxy] at hby
                  have HBY : Hid (Below w10.heap.size w10 wy) := hbq.out.trans (hby.mono hbq.out.size)
                  clear hxy xy_ hby
                  go_wp2
                  go_roundw
                  case rel => exact ⟨q + 1, HQ.out, by go_num, HBY⟩
                  case measure => have := HQ.out; simp [intOf]; omega
                · obtain rfl : q = wh.length := by omega
                  have HBF : Hid (Below w.heap.size w wr) := B10.out.trans (hbq.out.mono B10.out.size)
                  clear hql hq
                  go_wp2
                  go_ret
                  exact ⟨rfl, HBF.out⟩
  · have hni : (200 : Int) < (n : Int) := by omega
    go_wp2_with fail
    refine (awake_any w1).mono ?_
    rintro e w2 ⟨rfl, hb2⟩
    have B2 := B1.out.trans (hb2.mono B1.out.size)
    go_wp2
    go_ret
    exact ⟨rfl, B2⟩
end Go.Proofs.Ytacffoobeebleaa
