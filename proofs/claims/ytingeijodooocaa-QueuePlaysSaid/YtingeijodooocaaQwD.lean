/- QueuePlays: how a script is opened; its walk. -/
import Derived.Test.YtingeijodooocaaQwC
namespace Go.Proofs.Ytingeijodooocaa
open Go.ChangeShapes Go.WideShapes Go.ChangeAt Go.RowKit
section
variable {H : Type} {enc : TypeId × Value → H} {W : World} {base b0 fuel : Nat} {r : Reach} {sp : Nat → Bool} {held : Bool} {v : Value} {d : DataW H} {p : List MemPlace} {cs : List Value} {x : DataW H × List MemPlace}
def fO (o : Int × Wt) : Nat → Value
  | 0 => .int .i64 o.1
  | 1 => .int .i64 o.2.job
  | 2 => .string o.2.ten
  | _ => .int .i64 o.2.pri
theorem cellsO : Try.prog.cellsOf 49 = 4 := by kernel_rfl
theorem cellsK : Try.prog.cellsOf 3 = 1 := by kernel_rfl
set_option maxRecDepth 100000 in
theorem trod_intK {c : Value} (h : DataW.trod enc Try.prog W b0 sp held fuel 3 [c] = some x) : ∃ n : Int, c = .int .i64 n := by
  obtain ⟨s, e0, _, _⟩ := DataW.trod_int Try.underlying3 h
  simp at e0
  exact ⟨s, e0⟩
set_option maxRecDepth 100000 in
theorem trod_op (h : DataW.trod enc Try.prog W b0 sp held fuel 49 cs = some x) : ∃ o : Int × Wt, cs = (List.range 4).map (fO o) ∧ okW o.2 := by
  obtain ⟨xs, n, _, _, hl, hlen, hf⟩ := DataW.trod_struct Try.underlying49 h
  rw [cellsO] at hl
  match xs, hlen with
  | [z0, z1], _ =>
    have h0 : DataW.trod enc Try.prog W b0 sp held n 3 ((cs.drop 0).take (Try.prog.cellsOf 3)) = some z0 := hf 0 _ rfl
    have h1 : DataW.trod enc Try.prog W b0 sp held n 29 ((cs.drop 1).take (Try.prog.cellsOf 29)) = some z1 := hf 1 _ rfl
    clear hf
    rw [cellsK] at h0
    rw [cellsWt] at h1
    match cs, hl with
    | [c0, c1, c2, c3], _ =>
      simp only [List.drop_zero, List.take_succ_cons, List.take_zero, List.drop_succ_cons] at h0 h1
      obtain ⟨a, q0⟩ := trod_intK h0
      obtain ⟨u, q1, hu⟩ := trod_wt h1
      injection q1 with q1 q2
      injection q2 with q2 q3
      injection q3 with q3 _
      subst q0 q1 q2 q3
      exact ⟨(a, u), rfl, hu⟩
set_option maxRecDepth 100000 in
theorem open_ops (hv : Value.okWide Try.prog W r base 42 v) (h : DataW.Trod enc Try.prog W b0 sp held 42 v d p) :
    ∃ (A : Option Addr) (n cap : Nat) (l : List (Int × Wt)), v = .slice A n cap ∧ SlR 4 fO (fun _ o => okW o.2) W A n l ∧ n ≤ cap ∧ cap ≤ maxLen := by
  obtain ⟨A, n, cap, rfl⟩ := okWide_slice Try.underlying42 hv
  obtain ⟨fuel, hf⟩ := h
  obtain ⟨l, hl⟩ := trod_slz (z := 4) (by omega) (f := fO) (Pr := fun o => okW o.2) Try.underlying42 cellsO (fun k cs y hy => trod_op hy) (A := A) (n := n) (cap := cap) hf
  exact ⟨A, n, cap, l, rfl, hl⟩
end
variable {w0 w w' : World} {q g c : Nat} {L : List Wt} {u : Wt}
/-- The empty reference beside a new queue. -/
theorem Du.start (h : QS w0 w q [] 0) : Du w0 (w.alloc (.cells #[.slice none 0 0] 46)) q w.heap.size [] [] 0 (fun _ => False) := by
  obtain ⟨⟨F, h1⟩, h2⟩ := h
  have hb : Below w.heap.size w (w.alloc (.cells #[.slice none 0 0] 46)) := (Below.refl _ _).alloc (Nat.le_refl _) _
  refine ⟨⟨F, .slice none 0 0, 0, h1.below hb, ⟨h2.size, alloc_at w _, World.ownsRow_nil _ _ _ _, fun b e => (by cases e)⟩, fun k hk => ⟨fun e => ?_, fun e => e⟩, fun k _ e => e⟩, h2.trans (hb.mono h2.size)⟩
  rcases e with e | e
  · have := (h1.foot hk).2; omega
  · cases e
set_option maxRecDepth 100000 in
set_option maxHeartbeats 8000000 in
theorem queuePlays_any (A : Option Addr) (n cap : Nat) (l : List (Int × Wt)) (w : World) (h : SlG 4 fO w A n l) (hok : ∀ x ∈ l, okW x.2) (hn : n ≤ maxLen) :
    Calls Try.prog 6 #[.slice A n cap] w fun e w' => e = .returned (.bool true) ∧ Below w.heap.size w w' := by
  have HS := hid h
  have HOK := hid hok
  have HL : Hid (n = l.length) := h.1
  have hnb : (n : Int) ≤ 9223372036854775807 := by unfold maxLen at hn; omega
  clear h hok hn
  go_enter Try.func6, Try.ntmps6
  go_wp2_with fail
  refine (awake_q w).mono ?_
  rintro e w1 ⟨rfl, hb1⟩
  have B1 := hid hb1
  clear hb1
  by_cases h3 : (500 : Int) < (n : Int)
  · go_wp2_with fail
    refine (awake_q w1).mono ?_
    rintro e w2 ⟨rfl, hb2⟩
    have B2 := B1.out.trans (hb2.mono B1.out.size)
    go_wp2
    go_ret
    exact ⟨rfl, B2⟩
  have HN : Hid (n ≤ 500) := by unfold Hid; omega
  go_wp2_with fail
  refine (qs_new B1.out).mono ?_
  rintro e w2 ⟨rfl, hq⟩
  obtain ⟨q, hqe⟩ : ∃ q, q = w1.heap.size := ⟨_, rfl⟩
  rw [← hqe] at hq ⊢
  obtain ⟨g, hge⟩ : ∃ g, g = w2.heap.size := ⟨_, rfl⟩
  have hd := Du.start hq
  rw [← hge] at hd
  have HQ0 : Hid (∃ L, Du w (w2.alloc (.cells #[.slice none 0 0] 46)) q g L L 0 (fun _ => False)) := ⟨[], hd⟩
  have HGE := hid hge
  clear hq hqe hd hge
  go_wp2_with fail
  rw [← HGE.out]
  clear HGE
  go_loopw [5] (fun iv wr => ∃ i : Nat, i ≤ n ∧ iv = .int .i64 i ∧ Hid (∃ L, Du w wr q g L L i (fun _ => False))) (fun iv _ => n - (intOf iv).toNat)
  case atStart => exact ⟨0, Nat.zero_le _, rfl, HQ0⟩
  case round =>
    clear HQ0
    obtain ⟨i, hi, rfl, HI⟩ := hrel
    obtain ⟨L, hI⟩ := HI.out
    by_cases hin : i < n
    · have HK1 : Hid (i + 1 ≤ n) := hin
      have HMS : Hid (n - (i + 1) < n - i) := by unfold Hid; omega
      have hii : (i : Int) < (n : Int) := by omega
      obtain ⟨o, ho⟩ : ∃ o, l[i]? = some o := ⟨_, List.getElem?_eq_getElem (by have := HL.out; omega)⟩
      obtain ⟨b0, off, rfl, hl, hc⟩ := HS.out.one hI.bel ho
      obtain ⟨kd, u⟩ := o
      have c0 : wr.cell? ⟨b0, off + i * 4, none⟩ = some (.int .i64 kd) := hc 0 (by omega)
      have c1 : wr.cell? ⟨b0, off + i * 4 + 1, none⟩ = some (.int .i64 u.job) := hc 1 (by omega)
      have c2 : wr.cell? ⟨b0, off + i * 4 + 2, none⟩ = some (.string u.ten) := hc 2 (by omega)
      have c3 : wr.cell? ⟨b0, off + i * 4 + 3, none⟩ = some (.int .i64 u.pri) := hc 3 (by omega)
      have HUO : Hid (okW u) := HOK.out _ (List.mem_of_getElem? ho)
      have HST : Hid (∀ W, Below wr.heap.size wr W → Calls Try.prog 18 #[.pointer (some ⟨q, 0, none⟩), .pointer (some ⟨g, 0, none⟩), .agg #[.int .i64 kd, .int .i64 u.job, .string u.ten, .int .i64 u.pri]] W fun e w' => e = .returned (.bool true) ∧ Sp w w' q g i) := fun W hb => qstep_any (hI.below hb) (by have := HN.out; omega) HUO.out kd
      have HCE : Hid (∀ W, Below w.heap.size w W → W.cell? ⟨b0, off + i * 4, none⟩ = some (.int .i64 kd) ∧ W.cell? ⟨b0, off + i * 4 + 1, none⟩ = some (.int .i64 u.job) ∧ W.cell? ⟨b0, off + i * 4 + 2, none⟩ = some (.string u.ten) ∧ W.cell? ⟨b0, off + i * 4 + 3, none⟩ = some (.int .i64 u.pri)) := fun W hW => by
        obtain ⟨b9, off9, e9, hl9, hc9⟩ := HS.out.one hW ho
        injection e9 with e9
        injection e9 with e9 e10
        subst e9 e10
        exact ⟨hc9 0 (by omega), hc9 1 (by omega), hc9 2 (by omega), hc9 3 (by omega)⟩
      clear ho hc hi hin hI HI
      go_upto_region 8 with fail
      go_region_with (first
        | (go_at_call 18; refine (HST.out _ (by repeat (first | with_reducible assumption | with_reducible exact Below.refl _ _ | with_reducible refine Below.drew ?_ | with_reducible refine below_drewN ?_ _ | with_reducible refine below_alloc ?_ _ | with_reducible refine Below.alloc ?_ (by first | omega | (simp; done) | (simp; omega)) _ | with_reducible refine Below.setCell ?_ (by first | omega | (simp; done) | (simp; omega)) _ | with_reducible refine below_setRow ?_ (by first | omega | (simp; done) | (simp; omega)) _))).mono ?_; rintro e w4 ⟨rfl, hsp⟩; obtain ⟨L4, hd4⟩ := hsp; obtain ⟨y0, y1, y2, y3⟩ := HCE.out w4 hd4.bel; obtain ⟨v4, n4, hr4⟩ := hd4.rf; obtain ⟨A4, cp4, rfl⟩ := rowR_shape hr4.row; have m4 := hr4.head; have ml4 := hr4.ltg; have HLE4 := hid hr4.len; have HD4 := hid hd4; clear hd4 hr4)
        | (go_at_call 15; refine (qs_len (HD4.out.below (by repeat (first | with_reducible assumption | with_reducible exact Below.refl _ _ | with_reducible refine Below.drew ?_ | with_reducible refine below_drewN ?_ _ | with_reducible refine below_alloc ?_ _ | with_reducible refine Below.alloc ?_ (by first | omega | (simp; done) | (simp; omega)) _ | with_reducible refine Below.setCell ?_ (by first | omega | (simp; done) | (simp; omega)) _ | with_reducible refine below_setRow ?_ (by first | omega | (simp; done) | (simp; omega)) _))).qs).mono ?_; rw [HLE4.out]; rintro e w5 ⟨rfl, rfl⟩))
      all_goals
        have hnn : (n4 != n4) = false := by simp
        have F : Hid (∀ X, Below w4.heap.size w4 X → ∃ L, Du w X q g L L (i + 1) (fun _ => False)) := fun X hX => ⟨L4, HD4.out.below hX⟩
        clear c0 c1 c2 c3 y0 y1 y2 y3
        go_wp2
        go_roundw
        case rel => exact ⟨i + 1, HK1.out, by go_num, F.out _ (by repeat (first | with_reducible assumption | with_reducible exact Below.refl _ _ | with_reducible refine Below.drew ?_ | with_reducible refine below_drewN ?_ _ | with_reducible refine below_alloc ?_ _ | with_reducible refine Below.alloc ?_ (by first | omega | (simp; done) | (simp; omega)) _ | with_reducible refine Below.setCell ?_ (by first | omega | (simp; done) | (simp; omega)) _ | with_reducible refine below_setRow ?_ (by first | omega | (simp; done) | (simp; omega)) _))⟩
        case measure => have := HMS.out; simp [intOf]; omega
    · obtain rfl : i = n := by omega
      have hii : ¬ (i : Int) < (i : Int) := by omega
      have hcall := qstep_any hI (by have := HN.out; omega) (u := ⟨0, ⟨#[]⟩, 0⟩) ⟨by show 0 ≤ maxLen; omega, by decide, by decide⟩ 5
      unfold oQ at hcall
      simp only at hcall
      have HI0 := hid hI
      clear hi hin hI HI
      go_wp2_with fail
      refine hcall.mono ?_
      rintro e w5 ⟨rfl, hsp⟩
      have FIN : Hid (Below w.heap.size w w5) := by obtain ⟨L5, hd5⟩ := hsp; exact hd5.bel
      clear hsp hcall
      go_wp2
      go_ret
      exact ⟨rfl, FIN.out⟩
end Go.Proofs.Ytingeijodooocaa
