/- DagNil's walk. -/
import Derived.Test.YtolfioiccmmifaaWDpP
namespace Go.Proofs.Ytolfioiccmmifaa
open Go.RowKit
variable {B H H2 : Nat} {Q : Nat → Prop} {w w' : World}
set_option maxRecDepth 20000 in
theorem nil_at (x : Int) (w : World) : Calls Try.prog 29 #[.pointer none, .int .i64 x] w fun e w' => e = .returned (.pointer none) ∧ Below w.heap.size w w' := by
  go_enter Try.func29, Try.ntmps29
  go_wp2
  go_ret
  exact ⟨rfl, (by repeat (first | with_reducible assumption | with_reducible exact Below.refl _ _ | with_reducible refine Below.drew ?_ | with_reducible refine below_drewN ?_ _ | with_reducible refine below_alloc ?_ _ | with_reducible refine Below.alloc ?_ (by first | omega | (simp; done) | (simp; omega)) _ | with_reducible refine Below.setCell ?_ (by first | omega | (simp; done) | (simp; omega)) _ | with_reducible refine below_setRow ?_ (by first | omega | (simp; done) | (simp; omega)) _))⟩
set_option maxRecDepth 20000 in
theorem nil_add (x : Int) (A : Option Addr) (n c : Nat) (w : World) : Calls Try.prog 11 #[.pointer none, .int .i64 x, .slice A n c] w fun e w' => e = .returned (.tuple #[.bool false, .int .i64 10]) ∧ Below w.heap.size w w' := by
  go_enter Try.func11, Try.ntmps11
  go_wp2
  go_ret2
  exact ⟨rfl, (by repeat (first | with_reducible assumption | with_reducible exact Below.refl _ _ | with_reducible refine Below.drew ?_ | with_reducible refine below_drewN ?_ _ | with_reducible refine below_alloc ?_ _ | with_reducible refine Below.alloc ?_ (by first | omega | (simp; done) | (simp; omega)) _ | with_reducible refine Below.setCell ?_ (by first | omega | (simp; done) | (simp; omega)) _ | with_reducible refine below_setRow ?_ (by first | omega | (simp; done) | (simp; omega)) _))⟩
set_option maxRecDepth 20000 in
theorem nil_free (x : Int) (w : World) : Calls Try.prog 16 #[.pointer none, .int .i64 x] w fun e w' => e = .returned (.bool false) ∧ Below w.heap.size w w' := by
  go_enter Try.func16, Try.ntmps16
  go_wp2_with fail
  refine (nil_at x w).mono ?_
  rintro e w1 ⟨rfl, hb1⟩
  have HB1 := hid hb1
  clear hb1
  go_wp2
  go_ret
  exact ⟨rfl, HB1.out⟩
set_option maxRecDepth 20000 in
theorem nil_parents (x : Int) (w : World) : Calls Try.prog 13 #[.pointer none, .int .i64 x] w fun e w' => e = .returned (.tuple #[.slice none 0 0, .int .i64 3]) ∧ Below w.heap.size w w' := by
  go_enter Try.func13, Try.ntmps13
  go_wp2_with fail
  refine (nil_at x w).mono ?_
  rintro e w1 ⟨rfl, hb1⟩
  have HB1 := hid hb1
  clear hb1
  go_wp2
  go_ret2
  exact ⟨rfl, HB1.out⟩
set_option maxRecDepth 20000 in
theorem nil_done (x : Int) (w : World) : Calls Try.prog 15 #[.pointer none, .int .i64 x] w fun e w' => e = .returned (.tuple #[.slice none 0 0, .int .i64 3]) ∧ Below w.heap.size w w' := by
  go_enter Try.func15, Try.ntmps15
  go_wp2_with fail
  refine (nil_at x w).mono ?_
  rintro e w1 ⟨rfl, hb1⟩
  have HB1 := hid hb1
  clear hb1
  go_wp2
  go_ret2
  exact ⟨rfl, HB1.out⟩
set_option maxRecDepth 20000 in
theorem nil_fail (x : Int) (w : World) : Calls Try.prog 17 #[.pointer none, .int .i64 x] w fun e w' => e = .returned (.tuple #[.slice none 0 0, .int .i64 3]) ∧ Below w.heap.size w w' := by
  go_enter Try.func17, Try.ntmps17
  go_wp2_with fail
  refine (nil_at x w).mono ?_
  rintro e w1 ⟨rfl, hb1⟩
  have HB1 := hid hb1
  clear hb1
  go_wp2
  go_ret2
  exact ⟨rfl, HB1.out⟩
/-- A block of Q is stored into. -/
theorem D3.set {b o : Nat} {u : Value} (h : D3 B w H H2 Q) (hb : Q b) : D3 B (w.setCell ⟨b, o, none⟩ u) H H2 Q := by
  obtain ⟨R, v, P, G, J, h, r⟩ := h
  have e : ∀ k, k ≠ b → (w.setCell ⟨b, o, none⟩ u).heap[k]? = w.heap[k]? := fun k hk => heap_setCell_other w ⟨b, o, none⟩ k u hk
  refine ⟨R, v, P, G, J, ⟨h.g.at fun k hk => e k fun q => h.qg b hb (q ▸ hk), h.r.at (fun k hk => e k fun q => h.qr b hb (q ▸ .inl hk)) (fun x hx k hk => e k fun q => h.qr b hb (q ▸ .inr ⟨x, hx, hk⟩)), h.ap, fun k hk => ?_, h.qg, h.qr⟩, r⟩
  rw [World.size_setCell]; exact h.ql k hk
attribute [local go_sem ↓] zeroG
theorem rowZ_set (xs : List Int) (i : Nat) (z : Int) : (rowZ xs).set i (.int .i64 z) = rowZ (xs.set i z) := (List.map_set).symm
set_option maxRecDepth 100000 in
set_option maxHeartbeats 16000000 in
theorem dagNil_any (id : Int) (A : Option Addr) (n cap : Nat) (zs : List Int) (w : World) (hs : SlZ w A n zs) (hn : n ≤ maxLen) :
    Calls Try.prog 8 #[.int .i64 id, .slice A n cap] w fun e w' => e = .returned (.bool true) ∧ Below w.heap.size w w' := by
  have HS := hid hs
  have hnb : (n : Int) ≤ 9223372036854775807 := by unfold maxLen at hn; omega
  clear hs hn
  go_enter Try.func8, Try.ntmps8
  go_wp2_with fail
  refine (awake_g w).mono ?_
  rintro e w1 ⟨rfl, hb1⟩
  have B1 := hid hb1
  clear hb1
  by_cases h3 : (300 : Int) < (n : Int)
  · go_wp2_with fail
    refine (awake_g w1).mono ?_
    rintro e w2 ⟨rfl, hb2⟩
    have B2 := B1.out.trans (hb2.mono B1.out.size)
    go_wp2
    go_ret
    exact ⟨rfl, B2⟩
  have HN : Hid (n ≤ 300) := by unfold Hid; omega
  have HN3 : Hid ((n : Int) ≤ 300) := by unfold Hid; omega
  go_wp2_with fail
  refine (nil_add id A n cap w1).mono ?_
  rintro e w2 ⟨rfl, hb2⟩
  have B2 := hid (B1.out.trans (hb2.mono B1.out.size))
  clear hb2 B1 h3
  go_wp2_with fail
  refine (nil_parents id w2).mono ?_
  rintro e w3 ⟨rfl, hb3⟩
  have B3 := hid (B2.out.trans (hb3.mono B2.out.size))
  clear hb3 B2
  go_wp2_with fail
  refine (nil_done id w3).mono ?_
  rintro e w4 ⟨rfl, hb4⟩
  have B4 := hid (B3.out.trans (hb4.mono B3.out.size))
  clear hb4 B3
  go_wp2_with fail
  refine (nil_fail id w4).mono ?_
  rintro e w5 ⟨rfl, hb5⟩
  have B5 := hid (B4.out.trans (hb5.mono B4.out.size))
  clear hb5 B4
  go_wp2_with fail
  refine (nil_free id w5).mono ?_
  rintro e w6 ⟨rfl, hb6⟩
  have B6 := hid (B5.out.trans (hb6.mono B5.out.size))
  clear hb6 B5
  go_upto_region 13 with (fail)
  refine wp_name ?_
  intro w7 hw7
  have b7 : Below w6.heap.size w6 w7 := by rw [hw7]; exact (by repeat (first | with_reducible assumption | with_reducible exact Below.refl _ _ | with_reducible refine Below.drew ?_ | with_reducible refine below_drewN ?_ _ | with_reducible refine below_alloc ?_ _ | with_reducible refine Below.alloc ?_ (by first | omega | (simp; done) | (simp; omega)) _ | with_reducible refine Below.setCell ?_ (by first | omega | (simp; done) | (simp; omega)) _ | with_reducible refine below_setRow ?_ (by first | omega | (simp; done) | (simp; omega)) _))
  have X7 : w7.heap[w6.heap.size]? = some (.cells (arrG (fun _ => .slice none 0 0) gr0) 51 (0, 0)) := by rw [hw7]; exact (by (repeat (first | (with_reducible assumption) | (with_reducible exact alloc_at _ _) | ((with_reducible apply alloc_at'); (simp; done)) | (with_reducible apply alloc_at_lt) | (with_reducible apply heap_drew_at) | (with_reducible apply heap_drewN_at) | (with_reducible apply heap_setCell_same) | ((with_reducible apply heap_set_ne); (first | omega | (dsimp only; omega) | (simp; done) | (simp; omega))) | (with_reducible apply setRow_at) | ((with_reducible apply setRow_ne); (first | omega | (dsimp only; omega) | (simp; done) | (simp; omega))))))
  have X8 : w7.heap[w6.heap.size + 1]? = some (.cells #[.slice none 0 0] 45 (0, 0)) := by rw [hw7]; exact at_of (by apply Exists.intro; refine ⟨?_, ?_⟩; (focus ((repeat (first | (with_reducible assumption) | (with_reducible exact alloc_at _ _) | ((with_reducible apply alloc_at'); (simp; done)) | (with_reducible apply alloc_at_lt) | (with_reducible apply heap_drew_at) | (with_reducible apply heap_drewN_at) | (with_reducible apply heap_setCell_same) | ((with_reducible apply heap_set_ne); (first | omega | (dsimp only; omega) | (simp; done) | (simp; omega))) | (with_reducible apply setRow_at) | ((with_reducible apply setRow_ne); (first | omega | (dsimp only; omega) | (simp; done) | (simp; omega))))))); simp)
  obtain ⟨H, hH⟩ : ∃ H, H = w6.heap.size := ⟨_, rfl⟩
  rw [← hH] at X7 X8 ⊢
  obtain ⟨H2, hH2⟩ : ∃ H2, H2 = H + 1 := ⟨_, rfl⟩
  rw [← hH2] at X8
  try rw [← hH2]
  have hB6 := B6.out.size
  have hs7 : w.heap.size ≤ w7.heap.size := Nat.le_trans hB6 b7.size
  have hD7 : D3 w.heap.size w7 H H2 (fun k => k < w.heap.size) := D3.start (GrV.start (by omega) X7) (by omega) X8
  have b07 : Below w.heap.size w w7 := B6.out.trans (b7.mono hB6)
  obtain ⟨A8, cap8, w8, happ, hown, hG, hat⟩ := app_src (b := w7.heap.size) (n := 0) (A := none) (xs := []) (cap := 0) (cap2 := cap) (World.ownsRow_nil w7 _ _ _) (HS.out.below b07) (by have := HN.out; omega) (Nat.le_refl _)
  have hb8 : Below w7.heap.size w7 w8 := Tur.below (Tur.of_grown (F := fun _ => False) hG (fun g hg => nomatch hg)) (Nat.le_refl _) (fun k hk => hk.elim)
  rw [Nat.zero_add] at happ hown hat
  have HAPP := hid happ
  have HOWN := hid hown
  obtain ⟨Q, hQ⟩ : ∃ Q, Q = Qx (fun k => k < w.heap.size) w7.heap.size w8.heap.size := ⟨_, rfl⟩
  have HD8 : Hid (D3 w.heap.size w8 H H2 Q) := by rw [hQ]; exact hD7.below hb8
  have HQ1 : Hid (∀ k, k < w.heap.size → Q k) := by rw [hQ]; exact fun k hk => .inl hk
  have HQ2 : Hid (∀ k, (Value.slice A8 n cap8).ownBlock = some k → Q k) := by rw [hQ]; exact fun k hk => .inr (hown.lt k hk)
  have HB8 : Hid (Below w.heap.size w w8) := b07.trans (hb8.mono b07.size)
  have HZ8 : Hid (∀ W, Kp Q w8 W → W.ownsRow w7.heap.size 2 1 (.slice A8 n cap8) n (rowZ zs) ∧ SlZ W A n zs ∧ Below w.heap.size w W) := fun W hk => by
    have hb : Below w.heap.size w8 W := Tur.below (hk.lessT HQ1.out) (Nat.le_trans HB8.out.size (Nat.le_refl _)) fun k hk => by omega
    exact ⟨rowN_kept HOWN.out fun k hk2 => hk.at (HOWN.out.lt k hk2).2 (HQ2.out k hk2), HS.out.below (HB8.out.trans hb), HB8.out.trans hb⟩
  have HB := hid (HD8.out.add (A := A8) (A2 := A) (n := n) (n2 := n) (c := cap8) (c2 := cap) (zs := zs) id (fun W hk => slz_row (by have := (HZ8.out W hk).1; simpa using this)) (fun W hk => (HZ8.out W hk).2.1) (by have := HN.out; omega))
  unfold BothA at HB
  clear hw7 b7 X7 X8 hH hH2 hB6 hD7 b07 happ hown hG hat hb8 hQ B6 HB8 HD8
  go_wp2_with (first | (at_builtin; refine wpList_append_eq rfl _ _ _ rfl rfl rfl HAPP.out ?_))
  refine HB.out.mono ?_
  rintro e w9 ⟨a, z, rfl, k9, s9, hh⟩
  have HH := hid hh
  have K9 := hid k9
  clear hh k9 HB
  go_wp2_with fail
  refine (HH.out w9 (Below.refl _ _)).mono ?_
  rintro e w10 ⟨rfl, k10, s10, hD10⟩
  have hK : Kp Q w8 w10 := K9.out.trans (k10.lessT qx_le)
  obtain ⟨hrow, hsl, hbel⟩ := HZ8.out w10 hK
  have HROW := hid hrow
  have HBEL := hid hbel
  have HD := hid (hD10.less qx_le)
  have hsi : SlZ w10 A8 n zs := slz_row hrow
  have HSI := hid (same_ints cap8 cap hsi hsl (by have := HN.out; omega))
  have hz : (z == z) = true := by simp
  have hz2 : (z != z) = false := by simp
  have ha : (a == a) = true := by simp
  have ha2 : (a != a) = false := by simp
  clear k10 hD10 HH K9 hK hrow hsl hbel hsi HZ8
  go_wp2_with fail
  refine HSI.out.mono ?_
  rintro e w11 ⟨rfl, hb11⟩
  have hr11 : w11.ownsRow w7.heap.size 2 1 (.slice A8 n cap8) n (rowZ zs) := rowN_kept HROW.out fun k hk => hb11.block k (HROW.out.lt k hk).2
  have hd11 := (HD.out.below hb11).less (Q' := Q) qx_le
  have hb11' := HBEL.out.trans (hb11.mono HBEL.out.size)
  have HSZ := hid hs7
  have HI0 : Hid (D3 w.heap.size w11 H H2 Q ∧ (∃ xs : List Int, w11.ownsRow w7.heap.size 2 1 (.slice A8 n cap8) n (rowZ xs)) ∧ Below w.heap.size w w11) := ⟨hd11, ⟨_, hr11⟩, hb11'⟩
  clear HSI HROW HD HBEL hz hz2 ha ha2 hb11 hr11 hd11 hb11' hs7
  have hnb2 : (n : Int) ≤ 300 := HN3.out
  go_wp2_with fail
  go_loopw [21] (fun iv wr => ∃ i : Nat, i ≤ n ∧ iv = .int .i64 i ∧ Hid (D3 w.heap.size wr H H2 Q ∧ (∃ xs : List Int, wr.ownsRow w7.heap.size 2 1 (.slice A8 n cap8) n (rowZ xs)) ∧ Below w.heap.size w wr)) (fun iv _ => n - (intOf iv).toNat)
  case atStart => exact ⟨0, Nat.zero_le _, rfl, HI0⟩
  case round =>
    clear HI0
    obtain ⟨i, hi, rfl, HI⟩ := hrel
    by_cases hin : i < n
    · have HK1 : Hid (i + 1 ≤ n) := hin
      have HMS : Hid (n - (i + 1) < n - i) := by unfold Hid; omega
      have hii : (i : Int) < (n : Int) := by omega
      obtain ⟨hd, ⟨xs, hr⟩, hb⟩ := HI.out
      obtain ⟨g, c2, e, -, hg, hfz, hc⟩ := getD_row hr (by omega)
      injection e with e1 e2 e3
      subst e1 e3
      have c0 := hc i (by omega)
      have hf := hfz i
      have hst := (hr.stored i (.int .i64 0)).1
      rw [rowZ_set] at hst
      have hbw : Below w.heap.size w (wr.setCell ⟨g, i, none⟩ (.int .i64 0)) := by
        have t : Tur (fun k => k = g) wr (wr.setCell ⟨g, i, none⟩ (.int .i64 0)) := Tur.set _ (.inl rfl)
        have hgb : w.heap.size ≤ g := by
          have h1 := (hr.lt g rfl).1
          have h2 := HSZ.out
          omega
        exact hb.trans (t.below hb.size fun k hk => by omega)
      have HREL : Hid (D3 w.heap.size (wr.setCell ⟨g, i, none⟩ (.int .i64 0)) H H2 Q ∧ (∃ xs : List Int, (wr.setCell ⟨g, i, none⟩ (.int .i64 0)).ownsRow w7.heap.size 2 1 (.slice (some ⟨g, 0, none⟩) n cap8) n (rowZ xs)) ∧ Below w.heap.size w (wr.setCell ⟨g, i, none⟩ (.int .i64 0))) := ⟨hd.set (HQ2.out g rfl), ⟨_, hst⟩, hbw⟩
      clear HI hd hr hb hc hfz hst hbw hi hin
      go_wp2
      go_roundw
      case rel => exact ⟨i + 1, HK1.out, by go_num, HREL⟩
      case measure => have := HMS.out; simp [intOf]; omega
    · have hii : ¬ (i : Int) < (n : Int) := by omega
      obtain ⟨hd, -, hb⟩ := HI.out
      have HB := hid (hd.parents id)
      have HBL := hid hb
      unfold BothL at HB
      clear HI hd hb hi hin
      go_wp2_with fail
      refine HB.out.mono ?_
      rintro e w3 ⟨A3, n3, c3, z3, l, rfl, hn3, k3, s3, hh⟩
      have HH := hid hh
      have K3 := hid k3
      clear hh k3 HB
      go_wp2_with fail
      refine (HH.out w3 (Below.refl _ _)).mono ?_
      rintro e w4 ⟨A4, n4, c4, rfl, s1, s2, k4, s4, hD⟩
      have HSI := hid (same_ints c3 c4 s1 s2 (by omega))
      have FIN : Hid (Below w.heap.size w w4) := by
        have hk : Kp Q wr w4 := K3.out.trans (k4.lessT qx_le)
        exact HBL.out.trans (Tur.below (hk.lessT HQ1.out) HBL.out.size fun k hk => by omega)
      clear hD k4 HH K3 s1 s2 hn3
      go_wp2_with fail
      refine HSI.out.mono ?_
      rintro e w5 ⟨rfl, hb5⟩
      have FIN5 := hid (FIN.out.trans (hb5.mono FIN.out.size))
      clear hb5 FIN
      go_wp2
      go_ret
      exact ⟨rfl, FIN5.out⟩
end Go.Proofs.Ytolfioiccmmifaa
