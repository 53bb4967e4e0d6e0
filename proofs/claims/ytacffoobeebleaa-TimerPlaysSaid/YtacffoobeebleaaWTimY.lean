/- TimerPlays: the walk. -/
import Derived.Test.YtacffoobeebleaaTimD
import Derived.Test.YtacffoobeebleaaTimU
namespace Go.Proofs.Ytacffoobeebleaa
open Go.RowKit
/-- Both clocks in memory. -/
structure Duo (B : Nat) (w : World) (c : Nat) (v : Value) (m : Option Nat) (l : List Al) (R : Nat) (vr : Value) (lr : List Al) : Prop where
  k : Clk B w c v m l
  r : RefK B w R vr lr
  ap : ∀ k, Foot c v m k → ¬ FootR R vr k
section
variable {B c R : Nat} {w w' : World} {v vr : Value} {m : Option Nat} {l lr : List Al}
theorem Duo.below (h : Duo B w c v m l R vr lr) (hb : Below w.heap.size w w') : Duo B w' c v m l R vr lr := ⟨h.k.below hb, h.r.below hb, h.ap⟩
theorem Duo.prog {Q : List Al → Prop} (h : Duo B w c v m l R vr lr) (p : CPost B w w' c v m Q) : ∃ v' m' l', Duo B w' c v' m' l' R vr lr ∧ Q l' ∧ Below B w w' := by
  obtain ⟨v', m', l', q1, q2, q3, q4⟩ := p
  refine ⟨v', m', l', ⟨q1, h.r.tur q3 (fun k hk hf => h.ap k hf hk), fun k hk hr => ?_⟩, q2, q3.below h.k.le (fun k hk => (h.k.foot hk).1)⟩
  rcases q4 k hk with h1 | h1
  · exact h.ap k h1 hr
  · have := (h.r.foot hr).2; omega
theorem Duo.ref {Q : List Al → Prop} (h : Duo B w c v m l R vr lr) (p : RPost B w w' R vr Q) : ∃ vr' lr', Duo B w' c v m l R vr' lr' ∧ Q lr' ∧ Below B w w' := by
  obtain ⟨v', l', q1, q2, q3, q4⟩ := p
  refine ⟨v', l', ⟨h.k.tur q3 (fun k hk hf => h.ap k hk hf), q1, fun k hk hr => ?_⟩, q2, q3.below h.k.le (fun k hk => (h.r.foot hk).1)⟩
  rcases q4 k hr with h1 | h1
  · exact h.ap k hk h1
  · have := (h.k.foot hk).2; omega
theorem Pair.duo (h : Pair B w c v m l R vr lr) : Duo B w c v m l R vr lr := ⟨h.k, h.r, h.ap⟩
/-- The length that the reference's clock shows. -/
theorem RefK.len (h : RefK B w R vr lr) (e : l.length = lr.length) : ∃ A cap, w.cell? ⟨R, 0, none⟩ = some (.slice A l.length cap) := by
  obtain ⟨A, cap, rfl⟩ := h.row.slice
  exact ⟨A, cap, by rw [e]; exact h.cell.1⟩
end
theorem SlP.cell {w : World} {A : Option Addr} {n k : Nat} {ls : List OpT} (h : SlP w A n ls) (hk : k < n) :
    ∃ b off, A = some ⟨b, off, none⟩ ∧ ∃ kd s t, s.size ≤ maxLen ∧ ∀ W, Below w.heap.size w W → W.cell? ⟨b, off + k * 3, none⟩ = some (.int .i64 kd) ∧ W.cell? ⟨b, off + k * 3 + 1, none⟩ = some (.string s) ∧ W.cell? ⟨b, off + k * 3 + 2, none⟩ = some (.int .i64 t) := by
  obtain ⟨rfl, h0 | ⟨b, off, rfl, hb, hc⟩, hs⟩ := h
  · subst h0; simp at hk
  · obtain ⟨c0, c1, c2⟩ := hc k hk
    exact ⟨b, off, rfl, _, _, _, hs _ (List.getElem_mem hk), fun W hW => ⟨(hW.cell hb).trans c0, (hW.cell hb).trans c1, (hW.cell hb).trans c2⟩⟩
set_option maxRecDepth 20000 in
set_option maxHeartbeats 16000000 in
theorem timerPlays_any (A : Option Addr) (n cap : Nat) (ls : List OpT) (w : World) (hs : SlP w A n ls) :
    Calls Try.prog 6 #[.slice A n cap] w fun e w' => e = .returned (.bool true) ∧ Below w.heap.size w w' := by
  have HS := hid hs
  clear hs
  go_enter Try.func6, Try.ntmps6
  go_wp2_with fail
  refine (awake_any w).mono ?_
  rintro e w1 ⟨rfl, hb1⟩
  have B1 := hid hb1
  clear hb1
  by_cases hn : n ≤ 1000
  · have hni : ¬ (1000 : Int) < (n : Int) := by omega
    have HN : Hid (n ≤ 1000) := hn
    go_wp2_with fail
    refine (new_any w1).mono ?_
    rintro e w2 ⟨rfl, hb2, k2⟩
    have B2 := hid (B1.out.trans (hb2.mono B1.out.size))
    have K2 := hid k2
    have HB2 := hid hb2
    clear hb2 k2
    go_upto_region 5 with fail
    refine wp_name ?_
    intro w3 hw3
    have b3 : Below w2.heap.size w2 w3 := by rw [hw3]; exact (by repeat (first | with_reducible assumption | with_reducible exact Below.refl _ _ | with_reducible refine Below.drew ?_ | with_reducible refine below_drewN ?_ _ | with_reducible refine below_alloc ?_ _ | with_reducible refine Below.alloc ?_ (by first | omega | (simp; done) | (simp; omega)) _ | with_reducible refine Below.setCell ?_ (by first | omega | (simp; done) | (simp; omega)) _ | with_reducible refine below_setRow ?_ (by first | omega | (simp; done) | (simp; omega)) _))
    have X3 : w3.heap[w2.heap.size]? = some (.cells #[.slice none 0 0] 46 (0, 0)) := by rw [hw3]; exact at_of (by apply Exists.intro; refine ⟨?_, ?_⟩; (focus ((repeat (first | (with_reducible assumption) | (with_reducible exact alloc_at _ _) | ((with_reducible apply alloc_at'); (simp; done)) | (with_reducible apply alloc_at_lt) | (with_reducible apply heap_drew_at) | (with_reducible apply heap_drewN_at) | (with_reducible apply heap_setCell_same) | ((with_reducible apply heap_set_ne); (first | omega | (dsimp only; omega) | (simp; done) | (simp; omega))) | (with_reducible apply setRow_at) | ((with_reducible apply setRow_ne); (first | omega | (dsimp only; omega) | (simp; done) | (simp; omega))))))); simp)
    have B3 := hid (B2.out.trans (b3.mono B2.out.size))
    have P3 : Hid (Pair w1.heap.size w3 w1.heap.size (.slice none 0 0) none [] w2.heap.size (.slice none 0 0) []) := by
      refine ⟨K2.out.below b3, ⟨HB2.out.size, X3, .inl ⟨rfl, rfl⟩, Nat.le_trans HB2.out.size b3.size⟩, ?_, ⟨.nil, fun _ => Iff.rfl, rfl⟩⟩
      rintro k (rfl | h | h) (h' | h')
      · have := K2.out.lt; omega
      · cases h'
      · cases h
      · cases h
      · cases h
      · cases h
    have Z : Hid (w.heap.size ≤ w1.heap.size) := B1.out.size
    clear hw3 b3 X3 hn
    obtain ⟨c, hc⟩ : ∃ c, c = w1.heap.size := ⟨_, rfl⟩
    obtain ⟨R, hR⟩ : ∃ R, R = w2.heap.size := ⟨_, rfl⟩
    rw [← hR] at P3 ⊢
    rw [← hc] at P3 Z ⊢
    clear hc hR K2 HB2 B2 B1 w2 w1
    go_wp2
    go_loopw [5] (fun i wr => ∃ k : Nat, k ≤ n ∧ i = .int .i64 k ∧ Hid (∃ v m l vr lr, Pair c wr c v m l R vr lr ∧ Below w.heap.size w wr)) (fun i _ => n - (intOf i).toNat)
    case atStart => exact ⟨0, Nat.zero_le _, rfl, _, _, _, _, _, P3.out, B3.out⟩
    case round =>
      obtain ⟨k, hk, rfl, hh⟩ := hrel
      obtain ⟨v, m, l, vr, lr, PR, BR⟩ := hh.out
      have hlR := PR.r.lt
      have HP := hid PR
      by_cases hkn : k < n
      · have hki : (k : Int) < (n : Int) := by omega
        have HK : Hid (k + 1 ≤ n) := hkn
        obtain ⟨b, off, rfl, kd, s, t, hsz, hcW⟩ := HS.out.cell hkn
        have HC := hid hcW
        have HST : Hid (∀ W, Below wr.heap.size wr W → Calls Try.prog 16 #[.pointer (some ⟨c, 0, none⟩), .pointer (some ⟨R, 0, none⟩), .agg #[.int .i64 kd, .string s, .int .i64 t]] W fun e w' => e = .returned (.bool true) ∧ StepP c W w' c R) := fun W hW => step_any kd c c R v vr m l lr s t W (HP.out.below hW) hsz
        have iw : IntKind.i64.wrap ((k : Int) + 1) = (k : Int) + 1 := IntWalk.i64_in _ (by have := HN.out; omega)
        clear hk hkn hh PR hcW hsz
        obtain ⟨c0, c1, c2⟩ := HC.out wr BR
        go_upto_region 8 with fail
        go_region_with (first | (go_at_call 16; refine (HST.out _ (by repeat (first | with_reducible assumption | with_reducible exact Below.refl _ _ | with_reducible refine Below.drew ?_ | with_reducible refine below_drewN ?_ _ | with_reducible refine below_alloc ?_ _ | with_reducible refine Below.alloc ?_ (by first | omega | (simp; done) | (simp; omega)) _ | with_reducible refine Below.setCell ?_ (by first | omega | (simp; done) | (simp; omega)) _ | with_reducible refine below_setRow ?_ (by first | omega | (simp; done) | (simp; omega)) _))).mono ?_; rintro e w92 ⟨rfl, v2, m2, l2, vr2, lr2, P92, D92⟩; obtain ⟨A2, cp2, q92⟩ := P92.r.len P92.same.len; have hl92 := P92.r.lt; have B92 : Below w.heap.size w w92 := BR.trans (Below.mono (B := c) (Below.trans (Below.mono (B := wr.heap.size) (by repeat (first | with_reducible assumption | with_reducible exact Below.refl _ _ | with_reducible refine Below.drew ?_ | with_reducible refine below_drewN ?_ _ | with_reducible refine below_alloc ?_ _ | with_reducible refine Below.alloc ?_ (by first | omega | (simp; done) | (simp; omega)) _ | with_reducible refine Below.setCell ?_ (by first | omega | (simp; done) | (simp; omega)) _ | with_reducible refine below_setRow ?_ (by first | omega | (simp; done) | (simp; omega)) _)) HP.out.k.le) D92) Z.out)) | (go_at_call 12; refine (lenc_any c c v2 m2 l2 _ (P92.k.below (by repeat (first | with_reducible assumption | with_reducible exact Below.refl _ _ | with_reducible refine Below.drew ?_ | with_reducible refine below_drewN ?_ _ | with_reducible refine below_alloc ?_ _ | with_reducible refine Below.alloc ?_ (by first | omega | (simp; done) | (simp; omega)) _ | with_reducible refine Below.setCell ?_ (by first | omega | (simp; done) | (simp; omega)) _ | with_reducible refine below_setRow ?_ (by first | omega | (simp; done) | (simp; omega)) _)))).mono ?_; rintro e w93 ⟨rfl, b93⟩; have D93 : Below w92.heap.size w92 w93 := Below.trans (by repeat (first | with_reducible assumption | with_reducible exact Below.refl _ _ | with_reducible refine Below.drew ?_ | with_reducible refine below_drewN ?_ _ | with_reducible refine below_alloc ?_ _ | with_reducible refine Below.alloc ?_ (by first | omega | (simp; done) | (simp; omega)) _ | with_reducible refine Below.setCell ?_ (by first | omega | (simp; done) | (simp; omega)) _ | with_reducible refine below_setRow ?_ (by first | omega | (simp; done) | (simp; omega)) _)) (b93.mono (Below.size (B := w92.heap.size) (w := w92) (by repeat (first | with_reducible assumption | with_reducible exact Below.refl _ _ | with_reducible refine Below.drew ?_ | with_reducible refine below_drewN ?_ _ | with_reducible refine below_alloc ?_ _ | with_reducible refine Below.alloc ?_ (by first | omega | (simp; done) | (simp; omega)) _ | with_reducible refine Below.setCell ?_ (by first | omega | (simp; done) | (simp; omega)) _ | with_reducible refine below_setRow ?_ (by first | omega | (simp; done) | (simp; omega)) _)))); have q93 := (D93.cell (p := ⟨R, 0, none⟩) hl92).trans q92; have B93 : Below w.heap.size w w93 := B92.trans (D93.mono B92.size)))
        all_goals
          have HF : Hid (∃ v m l vr lr, Pair c w93 c v m l R vr lr ∧ Below w.heap.size w w93) := ⟨_, _, _, _, _, P92.below D93, B93⟩
          clear P92 q92 hl92 B92 D92 q93 b93 D93 B93 BR hlR
          go_wp2
          go_roundw
          case rel => exact ⟨k + 1, HK.out, by go_num, HF.out⟩
          case measure => have := HK.out; simp [intOf]; omega
      · obtain rfl : k = n := by omega
        obtain ⟨T, hT⟩ : ∃ T : Int, T = 4611686018427387904 := ⟨_, rfl⟩
        have HP1 : Hid (∀ W, Duo c W c v m l R vr lr → Calls Try.prog 13 #[.pointer (some ⟨c, 0, none⟩), .int .i64 4611686018427387904] W fun e w' => ∃ vo v' m' out l', e = .returned vo ∧ Duo c w' c v' m' l' R vr lr ∧ DueR T l out l' ∧ w'.ownsRow c 34 2 vo out.length (flatT out) ∧ (∀ g, vo.ownBlock = some g → ¬ FootR R vr g) ∧ Below c W w') := fun W hW =>
          by
            rw [← hT]
            exact (due_any c c v m l T W hW.k).mono fun e w' ⟨vo, v', m', out, l', q1, q2, q3⟩ => by
              obtain ⟨v2, m2, l2, r1, r2, r3⟩ := hW.prog (Q := DueR T l out) ⟨v', m', l', q2.clk, q3, q2.tur, q2.foot⟩
              exact ⟨vo, _, _, out, _, q1, r1, r2, ownsRow_mono q2.row hW.k.le, fun g hg hf => by have := (q2.row.lt g hg).1; have := (hW.r.foot hf).2; omega, r3⟩
        have HP2 : Hid (∀ W v' m' l' vo out, Duo c W c v' m' l' R vr lr → DueR T l out l' → W.ownsRow c 34 2 vo out.length (flatT out) → (∀ g, vo.ownBlock = some g → ¬ FootR R vr g) → Calls Try.prog 18 #[.pointer (some ⟨R, 0, none⟩), .int .i64 4611686018427387904] W fun e w' => ∃ vx vr' lr', e = .returned vx ∧ Duo c w' c v' m' l' R vr' lr' ∧ SameL l' lr' ∧ w'.ownsRow c 34 2 vo out.length (flatT out) ∧ RowO c w' vx out ∧ out.length ≤ 1024 ∧ Below c W w') := fun W v' m' l' vo out hW hD hO hN =>
          by
            rw [← hT]
            exact (rdue_any c R vr lr T W hW.r HP.out.len HP.out.same.sorted).mono fun e w' ⟨vx, vr', outr, lr', q1, q2, q3, q4, q5, q6, q7⟩ => by
              obtain ⟨vr2, lr2, r1, r2, r3⟩ := hW.ref (Q := fun lr2 => DueR T lr outr lr2 ∧ Sorted lr2) ⟨vr', lr', q2, ⟨q4, q5⟩, q6, q7⟩
              obtain ⟨s1, rfl⟩ := HP.out.same.due hD r2.1 r2.2
              exact ⟨vx, _, _, q1, r1, s1, ownsRow_at hO (fun g hg => q6.kept g (hO.lt g hg).2 (hN g hg)), q3.mono (Nat.le_trans hW.k.le (Nat.le_refl _)), by have := r2.1.len; have := HP.out.len; omega, r3⟩
        have HD := hid HP.out.duo
        clear hT hkn hk hh PR hlR
        go_upto_region 10 with fail
        go_region_with (first | (go_at_call 13; refine (HP1.out _ (HD.out.below (by repeat (first | with_reducible assumption | with_reducible exact Below.refl _ _ | with_reducible refine Below.drew ?_ | with_reducible refine below_drewN ?_ _ | with_reducible refine below_alloc ?_ _ | with_reducible refine Below.alloc ?_ (by first | omega | (simp; done) | (simp; omega)) _ | with_reducible refine Below.setCell ?_ (by first | omega | (simp; done) | (simp; omega)) _ | with_reducible refine below_setRow ?_ (by first | omega | (simp; done) | (simp; omega)) _)))).mono ?_; rintro e w91 ⟨vo, v2, m2, out, l2, rfl, H91, Q91, R91, N91, B91⟩; have BB91 : Below c wr w91 := Below.trans (Below.mono (B := wr.heap.size) (by repeat (first | with_reducible assumption | with_reducible exact Below.refl _ _ | with_reducible refine Below.drew ?_ | with_reducible refine below_drewN ?_ _ | with_reducible refine below_alloc ?_ _ | with_reducible refine Below.alloc ?_ (by first | omega | (simp; done) | (simp; omega)) _ | with_reducible refine Below.setCell ?_ (by first | omega | (simp; done) | (simp; omega)) _ | with_reducible refine below_setRow ?_ (by first | omega | (simp; done) | (simp; omega)) _)) HP.out.k.le) B91) | (go_at_call 18; refine (HP2.out _ _ _ _ _ _ (H91.below (by repeat (first | with_reducible assumption | with_reducible exact Below.refl _ _ | with_reducible refine Below.drew ?_ | with_reducible refine below_drewN ?_ _ | with_reducible refine below_alloc ?_ _ | with_reducible refine Below.alloc ?_ (by first | omega | (simp; done) | (simp; omega)) _ | with_reducible refine Below.setCell ?_ (by first | omega | (simp; done) | (simp; omega)) _ | with_reducible refine below_setRow ?_ (by first | omega | (simp; done) | (simp; omega)) _))) Q91 (ownsRow_at R91 (fun g hg => Below.block (B := w91.heap.size) (w := w91) (by repeat (first | with_reducible assumption | with_reducible exact Below.refl _ _ | with_reducible refine Below.drew ?_ | with_reducible refine below_drewN ?_ _ | with_reducible refine below_alloc ?_ _ | with_reducible refine Below.alloc ?_ (by first | omega | (simp; done) | (simp; omega)) _ | with_reducible refine Below.setCell ?_ (by first | omega | (simp; done) | (simp; omega)) _ | with_reducible refine below_setRow ?_ (by first | omega | (simp; done) | (simp; omega)) _)) g (R91.lt g hg).2)) N91).mono ?_; rintro e w92 ⟨vx, vr2, lr2, rfl, H92, S92, R92, X92, M92, B92⟩; have BB92 : Below c wr w92 := Below.trans (by repeat (first | with_reducible assumption | with_reducible exact Below.refl _ _ | with_reducible refine Below.drew ?_ | with_reducible refine below_drewN ?_ _ | with_reducible refine below_alloc ?_ _ | with_reducible refine Below.alloc ?_ (by first | omega | (simp; done) | (simp; omega)) _ | with_reducible refine Below.setCell ?_ (by first | omega | (simp; done) | (simp; omega)) _ | with_reducible refine below_setRow ?_ (by first | omega | (simp; done) | (simp; omega)) _)) B92) | (go_at_call 17; refine (same_eq (B := c) (B' := c) _ _ _ out (ownsRow_at R92 (fun g hg => Below.block (B := w92.heap.size) (w := w92) (by repeat (first | with_reducible assumption | with_reducible exact Below.refl _ _ | with_reducible refine Below.drew ?_ | with_reducible refine below_drewN ?_ _ | with_reducible refine below_alloc ?_ _ | with_reducible refine Below.alloc ?_ (by first | omega | (simp; done) | (simp; omega)) _ | with_reducible refine Below.setCell ?_ (by first | omega | (simp; done) | (simp; omega)) _ | with_reducible refine below_setRow ?_ (by first | omega | (simp; done) | (simp; omega)) _)) g (R92.lt g hg).2)) (X92.at (fun g hg => Below.block (B := w92.heap.size) (w := w92) (by repeat (first | with_reducible assumption | with_reducible exact Below.refl _ _ | with_reducible refine Below.drew ?_ | with_reducible refine below_drewN ?_ _ | with_reducible refine below_alloc ?_ _ | with_reducible refine Below.alloc ?_ (by first | omega | (simp; done) | (simp; omega)) _ | with_reducible refine Below.setCell ?_ (by first | omega | (simp; done) | (simp; omega)) _ | with_reducible refine below_setRow ?_ (by first | omega | (simp; done) | (simp; omega)) _)) g (X92.lt g hg).2)) M92).mono ?_; rintro e w93 ⟨rfl, B93⟩; have b93 : Below w92.heap.size w92 w93 := Below.trans (by repeat (first | with_reducible assumption | with_reducible exact Below.refl _ _ | with_reducible refine Below.drew ?_ | with_reducible refine below_drewN ?_ _ | with_reducible refine below_alloc ?_ _ | with_reducible refine Below.alloc ?_ (by first | omega | (simp; done) | (simp; omega)) _ | with_reducible refine Below.setCell ?_ (by first | omega | (simp; done) | (simp; omega)) _ | with_reducible refine below_setRow ?_ (by first | omega | (simp; done) | (simp; omega)) _)) (B93.mono (Below.size (B := w92.heap.size) (w := w92) (by repeat (first | with_reducible assumption | with_reducible exact Below.refl _ _ | with_reducible refine Below.drew ?_ | with_reducible refine below_drewN ?_ _ | with_reducible refine below_alloc ?_ _ | with_reducible refine Below.alloc ?_ (by first | omega | (simp; done) | (simp; omega)) _ | with_reducible refine Below.setCell ?_ (by first | omega | (simp; done) | (simp; omega)) _ | with_reducible refine below_setRow ?_ (by first | omega | (simp; done) | (simp; omega)) _)))); have H93 := H92.below b93; have BB93 : Below c wr w93 := BB92.trans (b93.mono H92.k.le); obtain ⟨A3, cp3, q93⟩ := H93.r.len S92.len; have hl93 := H93.r.lt) | (go_at_call 12; refine (lenc_any c c v2 m2 l2 _ (H93.k.below (by repeat (first | with_reducible assumption | with_reducible exact Below.refl _ _ | with_reducible refine Below.drew ?_ | with_reducible refine below_drewN ?_ _ | with_reducible refine below_alloc ?_ _ | with_reducible refine Below.alloc ?_ (by first | omega | (simp; done) | (simp; omega)) _ | with_reducible refine Below.setCell ?_ (by first | omega | (simp; done) | (simp; omega)) _ | with_reducible refine below_setRow ?_ (by first | omega | (simp; done) | (simp; omega)) _)))).mono ?_; rintro e w94 ⟨rfl, b94⟩; have D94 : Below w93.heap.size w93 w94 := Below.trans (by repeat (first | with_reducible assumption | with_reducible exact Below.refl _ _ | with_reducible refine Below.drew ?_ | with_reducible refine below_drewN ?_ _ | with_reducible refine below_alloc ?_ _ | with_reducible refine Below.alloc ?_ (by first | omega | (simp; done) | (simp; omega)) _ | with_reducible refine Below.setCell ?_ (by first | omega | (simp; done) | (simp; omega)) _ | with_reducible refine below_setRow ?_ (by first | omega | (simp; done) | (simp; omega)) _)) (b94.mono (Below.size (B := w93.heap.size) (w := w93) (by repeat (first | with_reducible assumption | with_reducible exact Below.refl _ _ | with_reducible refine Below.drew ?_ | with_reducible refine below_drewN ?_ _ | with_reducible refine below_alloc ?_ _ | with_reducible refine Below.alloc ?_ (by first | omega | (simp; done) | (simp; omega)) _ | with_reducible refine Below.setCell ?_ (by first | omega | (simp; done) | (simp; omega)) _ | with_reducible refine below_setRow ?_ (by first | omega | (simp; done) | (simp; omega)) _)))); have q94 := (D94.cell (p := ⟨R, 0, none⟩) hl93).trans q93; have B94 : Below w.heap.size w w94 := BR.trans (Below.mono (B := c) (BB93.trans (D94.mono H93.k.le)) Z.out)))
        all_goals
          have HF := hid B94
          clear B94 D94 q94 b94 q93 hl93 BB93 H93 b93 B93 BB92 B92 M92 X92 R92 S92 H92 BB91 B91 N91 R91 Q91 H91 BR
          go_wp2
          go_ret
          exact ⟨rfl, HF.out⟩
  · have hni : (1000 : Int) < (n : Int) := by omega
    go_wp2_with fail
    refine (awake_any w1).mono ?_
    rintro e w2 ⟨rfl, hb2⟩
    have B2 := B1.out.trans (hb2.mono B1.out.size)
    go_wp2
    go_ret
    exact ⟨rfl, B2⟩
end Go.Proofs.Ytacffoobeebleaa
