/- Chapter 14's interval heap: settle (gen14b.py). -/
import Derived.Test.YtingeijodooocaaMmD
namespace Go.Proofs.Ytingeijodooocaa
open Go.RowKit
attribute [local go_sem] idx2a idx2b
variable {B H : Nat} {w w' : World} {va vk vs : Value} {S T : Mm}
theorem ltM_iff (k : Nat → K3) (a b : Nat) : LtM k a b ↔ (k a).1 < (k b).1 ∨ ((k a).1 = (k b).1 ∧ ((k a).2.1 < (k b).2.1 ∨ ((k a).2.1 = (k b).2.1 ∧ ((k a).2.2 < (k b).2.2 ∨ ((k a).2.2 = (k b).2.2 ∧ a < b))))) := by
  unfold LtM ltM cmp3 cmpZ
  rw [decide_eq_true_eq]
  generalize (k a).1 = x1
  generalize (k b).1 = y1
  generalize (k a).2.1 = x2
  generalize (k b).2.1 = y2
  generalize (k a).2.2 = x3
  generalize (k b).2.2 = y3
  repeat' split
  all_goals omega
theorem sto_ltM (k : Nat → K3) : Sto (LtM k) := by
  refine ⟨fun a => ?_, fun {a b c} h1 h2 => ?_, fun {a b} h => ?_⟩
  · rw [ltM_iff]; omega
  · rw [ltM_iff] at *; omega
  · rw [ltM_iff, ltM_iff]; omega
theorem Lnk.place (h : Lnk S) {x : Nat} (hx : x < S.m) (hs : S.s x ≠ 0) : ∃ p, S.s x = p + 1 ∧ p < S.n ∧ S.e p = x := by
  obtain ⟨h1, h2⟩ := h.gone x hx hs
  exact ⟨S.s x - 1, by omega, by omega, h2⟩
theorem Paired.half {L : Nat → Nat → Prop} {n i i0 : Nat} {e e' : Nat → Nat} (h : Paired L n e i e' i0) : i0 / 2 = i / 2 := by
  cases h <;> omega
theorem mdown_g {i : Nat} (h : MmV B w H va vk vs S) (hl : Lnk S) (hi : i < S.n) :
    Calls Try.prog 70 #[.pointer (some ⟨H, 0, none⟩), .int .i64 i] w fun e w' => e = .returned (.tuple #[]) ∧ ∃ T, MmV B w' H va vk vs T ∧ Lnk T ∧ Kin S T ∧ PDn (LtM S.k) S.n S.e i T.e ∧ Tur (FootM H va vk vs) w w' := by
  by_cases q : i % 2 = 1
  · have := mdownH_g h hl hi q
    unfold PDn
    rw [decide_eq_true q]
    exact this
  · have := mdownL_g h hl hi (by omega)
    unfold PDn
    rw [decide_eq_false q]
    exact this
/-- What a step of settle reads. -/
theorem MmV.spot (h : MmV B w H va vk vs S) (hl : Lnk S) {x : Nat} (hx : x < S.m) (hs : S.s x ≠ 0) :
    ∃ p g cap, S.s x = p + 1 ∧ p < S.n ∧ S.e p = x ∧ w.cell? ⟨H, 2, none⟩ = some (.slice (some ⟨g, 0, none⟩) S.m cap) ∧ w.cell? ⟨g, x, none⟩ = some (.int .i64 ((p + 1 : Nat) : Int)) := by
  obtain ⟨p, h1, h2, h3⟩ := hl.place hx hs
  obtain ⟨g, cap, hv, -, -, -, hc⟩ := rowI_cells h.rs (by omega)
  refine ⟨p, g, cap, h1, h2, h3, by rw [h.head.2.2, hv], ?_⟩
  rw [hc x hx, h1]
set_option maxRecDepth 20000 in
set_option maxHeartbeats 16000000 in
theorem msettle_g {i : Nat} (h : MmV B w H va vk vs S) (hl : Lnk S) (hi : i < S.n) (ho : Hole (LtM S.k) S.n S.e i) :
    Calls Try.prog 54 #[.pointer (some ⟨H, 0, none⟩), .int .i64 i] w fun e w' => e = .returned (.tuple #[]) ∧ ∃ T, MmV B w' H va vk vs T ∧ Lnk T ∧ Kin S T ∧ Ivl (LtM S.k) S.n T.e ∧ Tur (FootM H va vk vs) w w' := by
  have hnb : S.n ≤ 1000000 := Nat.le_trans hl.nb hl.mb
  have HNB := hid hnb
  have HP := hid (mpaired_g h hl hi)
  have HL := hid hl
  have HI := hid hi
  have HO := hid ho
  clear h hl hi ho hnb
  go_enter Try.func54, Try.ntmps54
  go_wp2_with fail
  refine HP.out.mono ?_
  rintro e w0 ⟨T0, i0, rfl, C0, C0l, C0k, P0, I0, R0⟩
  obtain ⟨a, ha⟩ : ∃ a, a = 2 * (i / 2) := ⟨_, rfl⟩
  have hi0 : 2 * (i0 / 2) = a := by rw [P0.half, ha]
  have hnb := HNB.out
  have ba : bits .andNot .i64 (i0 : Int) 1 = (a : Int) := by rw [← hi0]; exact b_andNot i0 (by omega)
  have bo : bits .or .i64 (i0 : Int) 1 = ((a + 1 : Nat) : Int) := by rw [← hi0]; exact b_or i0 (by omega)
  obtain ⟨g, cap, hva, -, hgl, -, hca⟩ := rowI_cells C0.ra (by rw [C0k.n]; omega)
  have c0 : w0.cell? ⟨H, 0, none⟩ = some (.slice (some ⟨g, 0, none⟩) S.n cap) := by rw [C0.head.1, hva, C0k.n]
  have l0 : H < w0.heap.size := C0.ltH
  have an : a < S.n := by omega
  have an1 : (a : Int) < (S.n : Int) := by omega
  obtain ⟨x, hx⟩ : ∃ x, x = T0.e a := ⟨_, rfl⟩
  have hxl := C0l.at_ a (by rw [C0k.n]; exact an)
  have HX : Hid (x < S.m ∧ S.s x ≠ 0) := by
    rw [hx]
    refine ⟨by have := hxl.1; rw [C0k.m] at this; exact this, fun z => ?_⟩
    rw [← C0k.live, hxl.2] at z
    omega
  have dx := hca a (by rw [C0k.n]; exact an)
  rw [← hx] at dx
  have HXE := hid hx
  have HA := hid ha
  have HAN := hid an
  have HPA := hid P0
  have HS0 : Hid (MmV B w0 H va vk vs T0 ∧ Lnk T0 ∧ Kin S T0 ∧ Tur (FootM H va vk vs) w w0) := ⟨C0, C0l, C0k, R0⟩
  clear HP P0 R0 I0 hxl hx hva hi0 hnb ha
  by_cases q : a + 1 < S.n
  · have ay : a + 1 < S.n := q
    obtain ⟨y, hy⟩ : ∃ y, y = T0.e (a + 1) := ⟨_, rfl⟩
    have hyl := C0l.at_ (a + 1) (by rw [C0k.n]; exact q)
    have HY : Hid (y < S.m ∧ S.s y ≠ 0) := by
      rw [hy]
      refine ⟨by have := hyl.1; rw [C0k.m] at this; exact this, fun z => ?_⟩
      rw [← C0k.live, hyl.2] at z
      omega
    have dy := hca (a + 1) (by rw [C0k.n]; exact q)
    rw [← hy] at dy
    have q1 : ((a + 1 : Nat) : Int) < (S.n : Int) := by omega
    have HYE := hid hy
    have HQ := hid q
    clear hyl hy q ay hca C0l C0k C0
    go_wp2
    refine wp_loop_rounds 3 ?_
    rw [rounds_succ]
    obtain ⟨p1, g1, cap1, hs1, hp1, he1, c1, d1⟩ := HS0.out.1.spot HS0.out.2.1 (x := x) (by rw [HS0.out.2.2.1.m]; exact HX.out.1) (by rw [Ne, HS0.out.2.2.1.live]; exact HX.out.2)
    rw [HS0.out.2.2.1.m] at c1
    rw [HS0.out.2.2.1.n] at hp1
    have l1 : H < w0.heap.size := HS0.out.1.ltH
    have iw1 : IntKind.i64.wrap ((p1 : Int) + 1 - 1) = (p1 : Int) := by rw [show (p1 : Int) + 1 - 1 = p1 by omega]; exact IntWalk.i64_in _ (by have := HNB.out; omega)
    have iv1 : IntKind.i64.wrap (p1 : Int) = (p1 : Int) := IntWalk.i64_in _ (by have := HNB.out; omega)
    have zi1 : (x : Int) < (S.m : Int) := by have := HX.out.1; omega
    have HP1 : Hid (p1 < S.n ∧ T0.e p1 = x) := ⟨hp1, he1⟩
    clear hs1 hp1 he1
    go_wp2_with fail
    refine (mup_g HS0.out.1 HS0.out.2.1 (i := p1) (by rw [HS0.out.2.2.1.n]; exact HP1.out.1)).mono ?_
    rintro e w1 ⟨rfl, T1, A, Bb, C, D, E⟩
    rw [HS0.out.2.2.1.k, HS0.out.2.2.1.n] at D
    have HS1 : Hid (MmV B w1 H va vk vs T1 ∧ Lnk T1 ∧ Kin S T1 ∧ Tur (FootM H va vk vs) w w1) := ⟨A, Bb, HS0.out.2.2.1.trans C, HS0.out.2.2.2.then E⟩
    have HD1 := hid D
    clear A Bb C D E c1 d1 l1 iw1 iv1 zi1
    go_wp2
    rw [rounds_succ]
    obtain ⟨p2, g2, cap2, hs2, hp2, he2, c2, d2⟩ := HS1.out.1.spot HS1.out.2.1 (x := y) (by rw [HS1.out.2.2.1.m]; exact HY.out.1) (by rw [Ne, HS1.out.2.2.1.live]; exact HY.out.2)
    rw [HS1.out.2.2.1.m] at c2
    rw [HS1.out.2.2.1.n] at hp2
    have l2 : H < w1.heap.size := HS1.out.1.ltH
    have iw2 : IntKind.i64.wrap ((p2 : Int) + 1 - 1) = (p2 : Int) := by rw [show (p2 : Int) + 1 - 1 = p2 by omega]; exact IntWalk.i64_in _ (by have := HNB.out; omega)
    have iv2 : IntKind.i64.wrap (p2 : Int) = (p2 : Int) := IntWalk.i64_in _ (by have := HNB.out; omega)
    have zi2 : (y : Int) < (S.m : Int) := by have := HY.out.1; omega
    have HP2 : Hid (p2 < S.n ∧ T1.e p2 = y) := ⟨hp2, he2⟩
    clear hs2 hp2 he2
    go_wp2_with fail
    refine (mup_g HS1.out.1 HS1.out.2.1 (i := p2) (by rw [HS1.out.2.2.1.n]; exact HP2.out.1)).mono ?_
    rintro e w2 ⟨rfl, T2, A, Bb, C, D, E⟩
    rw [HS1.out.2.2.1.k, HS1.out.2.2.1.n] at D
    have HS2 : Hid (MmV B w2 H va vk vs T2 ∧ Lnk T2 ∧ Kin S T2 ∧ Tur (FootM H va vk vs) w w2) := ⟨A, Bb, HS1.out.2.2.1.trans C, HS1.out.2.2.2.then E⟩
    have HD2 := hid D
    clear A Bb C D E c2 d2 l2 iw2 iv2 zi2
    go_wp2
    rw [rounds_succ]
    go_wp2
    refine wp_loop_rounds 3 ?_
    rw [rounds_succ]
    obtain ⟨p3, g3, cap3, hs3, hp3, he3, c3, d3⟩ := HS2.out.1.spot HS2.out.2.1 (x := x) (by rw [HS2.out.2.2.1.m]; exact HX.out.1) (by rw [Ne, HS2.out.2.2.1.live]; exact HX.out.2)
    rw [HS2.out.2.2.1.m] at c3
    rw [HS2.out.2.2.1.n] at hp3
    have l3 : H < w2.heap.size := HS2.out.1.ltH
    have iw3 : IntKind.i64.wrap ((p3 : Int) + 1 - 1) = (p3 : Int) := by rw [show (p3 : Int) + 1 - 1 = p3 by omega]; exact IntWalk.i64_in _ (by have := HNB.out; omega)
    have iv3 : IntKind.i64.wrap (p3 : Int) = (p3 : Int) := IntWalk.i64_in _ (by have := HNB.out; omega)
    have zi3 : (x : Int) < (S.m : Int) := by have := HX.out.1; omega
    have HP3 : Hid (p3 < S.n ∧ T2.e p3 = x) := ⟨hp3, he3⟩
    clear hs3 hp3 he3
    go_wp2_with fail
    refine (mdown_g HS2.out.1 HS2.out.2.1 (i := p3) (by rw [HS2.out.2.2.1.n]; exact HP3.out.1)).mono ?_
    rintro e w3 ⟨rfl, T3, A, Bb, C, D, E⟩
    rw [HS2.out.2.2.1.k, HS2.out.2.2.1.n] at D
    have HS3 : Hid (MmV B w3 H va vk vs T3 ∧ Lnk T3 ∧ Kin S T3 ∧ Tur (FootM H va vk vs) w w3) := ⟨A, Bb, HS2.out.2.2.1.trans C, HS2.out.2.2.2.then E⟩
    have HD3 := hid D
    clear A Bb C D E c3 d3 l3 iw3 iv3 zi3
    go_wp2
    rw [rounds_succ]
    obtain ⟨p4, g4, cap4, hs4, hp4, he4, c4, d4⟩ := HS3.out.1.spot HS3.out.2.1 (x := y) (by rw [HS3.out.2.2.1.m]; exact HY.out.1) (by rw [Ne, HS3.out.2.2.1.live]; exact HY.out.2)
    rw [HS3.out.2.2.1.m] at c4
    rw [HS3.out.2.2.1.n] at hp4
    have l4 : H < w3.heap.size := HS3.out.1.ltH
    have iw4 : IntKind.i64.wrap ((p4 : Int) + 1 - 1) = (p4 : Int) := by rw [show (p4 : Int) + 1 - 1 = p4 by omega]; exact IntWalk.i64_in _ (by have := HNB.out; omega)
    have iv4 : IntKind.i64.wrap (p4 : Int) = (p4 : Int) := IntWalk.i64_in _ (by have := HNB.out; omega)
    have zi4 : (y : Int) < (S.m : Int) := by have := HY.out.1; omega
    have HP4 : Hid (p4 < S.n ∧ T3.e p4 = y) := ⟨hp4, he4⟩
    clear hs4 hp4 he4
    go_wp2_with fail
    refine (mdown_g HS3.out.1 HS3.out.2.1 (i := p4) (by rw [HS3.out.2.2.1.n]; exact HP4.out.1)).mono ?_
    rintro e w4 ⟨rfl, T4, A, Bb, C, D, E⟩
    rw [HS3.out.2.2.1.k, HS3.out.2.2.1.n] at D
    have HS4 : Hid (MmV B w4 H va vk vs T4 ∧ Lnk T4 ∧ Kin S T4 ∧ Tur (FootM H va vk vs) w w4) := ⟨A, Bb, HS3.out.2.2.1.trans C, HS3.out.2.2.2.then E⟩
    have HD4 := hid D
    clear A Bb C D E c4 d4 l4 iw4 iv4 zi4
    go_wp2
    rw [rounds_succ]
    go_wp2
    go_end0
    refine ⟨rfl, T4, HS4.out.1, HS4.out.2.1, HS4.out.2.2.1, ?_, HS4.out.2.2.2⟩
    have inj0 : Inj S.n T0.e := by have := HS0.out.2.1.inj; rw [HS0.out.2.2.1.n] at this; exact this
    have ea : 2 * (i / 2) = a := HA.out.symm
    have hx : T0.e a = x := HXE.out.symm
    have u1 : PUp (LtM S.k) S.n T0.e a T1.e := by
      have : p1 = a := inj0 _ _ HP1.out.1 HAN.out (by rw [HP1.out.2, hx])
      rw [← this]; exact HD1.out
    have hy : T0.e (a + 1) = y := HYE.out.symm
    refine (settle_law (e0 := T0.e) (e1 := T1.e) (e2 := T2.e) (e3 := T3.e) (e4 := T4.e) HO.out (sto_ltM _) HL.out.inj HI.out HPA.out ?_ ⟨fun _ => ⟨p2, HP2.out.1, ?_, HD2.out⟩, fun z => ?_⟩ ⟨p3, HP3.out.1, ?_, HD3.out⟩ ⟨fun _ => ⟨p4, HP4.out.1, ?_, HD4.out⟩, fun z => ?_⟩).2 <;> try rw [ea]
    · exact u1
    · rw [HP2.out.2, hy]
    · exact absurd (by rw [ea]; exact HQ.out) z
    · rw [HP3.out.2, hx]
    · rw [HP4.out.2, hy]
    · exact absurd (by rw [ea]; exact HQ.out) z
  · have q1 : ¬ ((a + 1 : Nat) : Int) < (S.n : Int) := by omega
    have HQ := hid q
    clear q hca C0l C0k C0
    go_wp2
    refine wp_loop_rounds 3 ?_
    rw [rounds_succ]
    obtain ⟨p1, g1, cap1, hs1, hp1, he1, c1, d1⟩ := HS0.out.1.spot HS0.out.2.1 (x := x) (by rw [HS0.out.2.2.1.m]; exact HX.out.1) (by rw [Ne, HS0.out.2.2.1.live]; exact HX.out.2)
    rw [HS0.out.2.2.1.m] at c1
    rw [HS0.out.2.2.1.n] at hp1
    have l1 : H < w0.heap.size := HS0.out.1.ltH
    have iw1 : IntKind.i64.wrap ((p1 : Int) + 1 - 1) = (p1 : Int) := by rw [show (p1 : Int) + 1 - 1 = p1 by omega]; exact IntWalk.i64_in _ (by have := HNB.out; omega)
    have iv1 : IntKind.i64.wrap (p1 : Int) = (p1 : Int) := IntWalk.i64_in _ (by have := HNB.out; omega)
    have zi1 : (x : Int) < (S.m : Int) := by have := HX.out.1; omega
    have HP1 : Hid (p1 < S.n ∧ T0.e p1 = x) := ⟨hp1, he1⟩
    clear hs1 hp1 he1
    go_wp2_with fail
    refine (mup_g HS0.out.1 HS0.out.2.1 (i := p1) (by rw [HS0.out.2.2.1.n]; exact HP1.out.1)).mono ?_
    rintro e w1 ⟨rfl, T1, A, Bb, C, D, E⟩
    rw [HS0.out.2.2.1.k, HS0.out.2.2.1.n] at D
    have HS1 : Hid (MmV B w1 H va vk vs T1 ∧ Lnk T1 ∧ Kin S T1 ∧ Tur (FootM H va vk vs) w w1) := ⟨A, Bb, HS0.out.2.2.1.trans C, HS0.out.2.2.2.then E⟩
    have HD1 := hid D
    clear A Bb C D E c1 d1 l1 iw1 iv1 zi1
    go_wp2
    rw [rounds_succ]
    go_wp2
    rw [rounds_succ]
    go_wp2
    refine wp_loop_rounds 3 ?_
    rw [rounds_succ]
    obtain ⟨p2, g2, cap2, hs2, hp2, he2, c2, d2⟩ := HS1.out.1.spot HS1.out.2.1 (x := x) (by rw [HS1.out.2.2.1.m]; exact HX.out.1) (by rw [Ne, HS1.out.2.2.1.live]; exact HX.out.2)
    rw [HS1.out.2.2.1.m] at c2
    rw [HS1.out.2.2.1.n] at hp2
    have l2 : H < w1.heap.size := HS1.out.1.ltH
    have iw2 : IntKind.i64.wrap ((p2 : Int) + 1 - 1) = (p2 : Int) := by rw [show (p2 : Int) + 1 - 1 = p2 by omega]; exact IntWalk.i64_in _ (by have := HNB.out; omega)
    have iv2 : IntKind.i64.wrap (p2 : Int) = (p2 : Int) := IntWalk.i64_in _ (by have := HNB.out; omega)
    have zi2 : (x : Int) < (S.m : Int) := by have := HX.out.1; omega
    have HP2 : Hid (p2 < S.n ∧ T1.e p2 = x) := ⟨hp2, he2⟩
    clear hs2 hp2 he2
    go_wp2_with fail
    refine (mdown_g HS1.out.1 HS1.out.2.1 (i := p2) (by rw [HS1.out.2.2.1.n]; exact HP2.out.1)).mono ?_
    rintro e w2 ⟨rfl, T2, A, Bb, C, D, E⟩
    rw [HS1.out.2.2.1.k, HS1.out.2.2.1.n] at D
    have HS2 : Hid (MmV B w2 H va vk vs T2 ∧ Lnk T2 ∧ Kin S T2 ∧ Tur (FootM H va vk vs) w w2) := ⟨A, Bb, HS1.out.2.2.1.trans C, HS1.out.2.2.2.then E⟩
    have HD2 := hid D
    clear A Bb C D E c2 d2 l2 iw2 iv2 zi2
    go_wp2
    rw [rounds_succ]
    go_wp2
    rw [rounds_succ]
    go_wp2
    go_end0
    refine ⟨rfl, T2, HS2.out.1, HS2.out.2.1, HS2.out.2.2.1, ?_, HS2.out.2.2.2⟩
    have inj0 : Inj S.n T0.e := by have := HS0.out.2.1.inj; rw [HS0.out.2.2.1.n] at this; exact this
    have ea : 2 * (i / 2) = a := HA.out.symm
    have hx : T0.e a = x := HXE.out.symm
    have u1 : PUp (LtM S.k) S.n T0.e a T1.e := by
      have : p1 = a := inj0 _ _ HP1.out.1 HAN.out (by rw [HP1.out.2, hx])
      rw [← this]; exact HD1.out
    refine (settle_law (e0 := T0.e) (e1 := T1.e) (e2 := T1.e) (e3 := T2.e) (e4 := T2.e) HO.out (sto_ltM _) HL.out.inj HI.out HPA.out (by rw [ea]; exact u1) ⟨fun z => absurd (by rw [ea] at z; exact z) HQ.out, fun _ => rfl⟩ ⟨p2, HP2.out.1, by rw [ea, HP2.out.2, hx], HD2.out⟩ ⟨fun z => absurd (by rw [ea] at z; exact z) HQ.out, fun _ => rfl⟩).2
end Go.Proofs.Ytingeijodooocaa
