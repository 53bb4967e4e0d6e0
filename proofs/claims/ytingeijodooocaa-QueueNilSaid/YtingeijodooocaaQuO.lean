/- How waiters and a script of calls on a queue are opened. -/
import Derived.Test.YtingeijodooocaaOpn
import Derived.Test.YtingeijodooocaaQuE
namespace Go.Proofs.Ytingeijodooocaa
open Go.ChangeShapes Go.WideShapes Go.ChangeAt Go.RowKit
section
variable {H : Type} {enc : TypeId × Value → H} {W : World} {base b0 fuel : Nat} {r : Reach} {sp : Nat → Bool} {held : Bool} {v : Value} {d : DataW H} {p : List MemPlace} {cs : List Value} {x : DataW H × List MemPlace}
/-- What a waiter that came in is. -/
def okW (u : Wt) : Prop := u.ten.size ≤ maxLen ∧ (Lit.int .i64 u.job).wf = true ∧ (Lit.int .i64 u.pri).wf = true
theorem cellsWt : Try.prog.cellsOf 29 = 3 := by kernel_rfl
set_option maxRecDepth 100000 in
theorem trod_wt (h : DataW.trod enc Try.prog W b0 sp held fuel 29 cs = some x) : ∃ u : Wt, cs = (List.range 3).map (fW u) ∧ okW u := by
  obtain ⟨xs, n, _, _, hl, hlen, hf⟩ := DataW.trod_struct Try.underlying29 h
  rw [cellsWt] at hl
  match xs, hlen with
  | [z0, z1, z2], _ =>
    have h0 : DataW.trod enc Try.prog W b0 sp held n 2 ((cs.drop 0).take (Try.prog.cellsOf 2)) = some z0 := hf 0 _ rfl
    have h1 : DataW.trod enc Try.prog W b0 sp held n 9 ((cs.drop 1).take (Try.prog.cellsOf 9)) = some z1 := hf 1 _ rfl
    have h2 : DataW.trod enc Try.prog W b0 sp held n 2 ((cs.drop 2).take (Try.prog.cellsOf 2)) = some z2 := hf 2 _ rfl
    clear hf
    rw [cellsStr] at h1
    rw [cellsI] at h0 h2
    match cs, hl with
    | [c0, c1, c2], _ =>
      simp only [List.drop_zero, List.take_succ_cons, List.take_zero, List.drop_succ_cons] at h0 h1 h2
      obtain ⟨a, q0, ha⟩ := trod_int1 h0
      obtain ⟨s, q1, hs⟩ := trod_str1 h1
      obtain ⟨b, q2, hb⟩ := trod_int1 h2
      subst q0 q1 q2
      exact ⟨⟨a, s, b⟩, rfl, hs, ha, hb⟩
set_option maxRecDepth 100000 in
theorem open_ws (hv : Value.okWide Try.prog W r base 22 v) (h : DataW.Trod enc Try.prog W b0 sp held 22 v d p) :
    ∃ (A : Option Addr) (n cap : Nat) (l : List Wt), v = .slice A n cap ∧ SlR 3 fW (fun _ => okW) W A n l ∧ n ≤ cap ∧ cap ≤ maxLen := by
  obtain ⟨A, n, cap, rfl⟩ := okWide_slice Try.underlying22 hv
  obtain ⟨fuel, hf⟩ := h
  obtain ⟨l, hl⟩ := trod_slz (z := 3) (by omega) (f := fW) (Pr := okW) Try.underlying22 cellsWt (fun k cs y hy => trod_wt hy) (A := A) (n := n) (cap := cap) hf
  exact ⟨A, n, cap, l, rfl, hl⟩
set_option maxRecDepth 100000 in
theorem open_w (hv : Value.okWide Try.prog W r base 29 v) (h : DataW.Trod enc Try.prog W b0 sp held 29 v d p) : ∃ u : Wt, v = wtV u ∧ okW u := by
  obtain ⟨cs, rfl, _⟩ := okWide_struct Try.underlying29 hv
  obtain ⟨fuel, hf⟩ := h
  obtain ⟨u, hc, hu⟩ := trod_wt hf
  obtain ⟨l⟩ := cs
  simp only [Value.cells] at hc
  subst hc
  exact ⟨u, rfl, hu⟩
theorem SlR.gen {α : Type} {z : Nat} {f : α → Nat → Value} {Pr : World → α → Prop} {A : Option Addr} {n : Nat} {l : List α} (h : SlR z f Pr W A n l) : SlG z f W A n l := ⟨h.1, h.2.1⟩
end
set_option maxRecDepth 20000 in
set_option maxHeartbeats 400000 in
theorem awake_q (w : World) : Calls Try.prog 8 #[] w fun e w' => e = .returned (.bool true) ∧ Below w.heap.size w w' := by
  have hN := qb_new w.heap.size w (Nat.le_refl _)
  obtain ⟨v, hv⟩ : ∃ v : Wt, v = ⟨2, ⟨#[97]⟩, 5⟩ := ⟨_, rfl⟩
  have hvV : wtV v = .agg #[.int .i64 2, .string ⟨#[97]⟩, .int .i64 5] := by rw [hv]; rfl
  have HE : Hid (errQ [] v = 0 ∧ pushQ [] v = [v] ∧ v.ten.size ≤ maxLen ∧ (lsQ v.ky [v]).head? = some v) := by
    rw [hv]
    have e : errQ [] ⟨2, ⟨#[97]⟩, 5⟩ = 0 := by simp [errQ, okR, fndQ]
    refine ⟨e, by unfold pushQ; rw [if_pos e]; rfl, (by show 1 ≤ maxLen; unfold maxLen; omega), ?_⟩
    unfold lsQ
    simp
  go_enter Try.func8, Try.ntmps8
  go_wp2_with fail
  refine hN.mono ?_
  rintro e w1 ⟨rfl, F, hQ, hT, hF⟩
  obtain ⟨q, hq⟩ : ∃ q, q = w.heap.size := ⟨_, rfl⟩
  rw [← hq] at hQ ⊢
  have hP := qb_push (v := v) hQ HE.out.2.2.1 (by omega) (by have := hT.size; omega)
  rw [hvV, HE.out.1, HE.out.2.1] at hP
  have HT := hid hT
  have HF := hid hF
  clear hN hT hF hQ hq
  go_wp2_with fail
  refine hP.mono ?_
  rintro e w2 ⟨rfl, F2, hQ2, hT2, hF2⟩
  have hH := qb_head hQ2 (s := v.ten) HE.out.2.2.1
  have e1 : (lsQ v.ten.data.toList [v]).head? = some v := HE.out.2.2.2
  rw [e1, show wtV (got (some v)) = .agg #[.int .i64 2, .string ⟨#[97]⟩, .int .i64 5] from hvV, show gotE (some v) = 0 from rfl] at hH
  rw [show v.ten = ⟨#[97]⟩ by rw [hv]] at hH
  have HQ2 := hid hQ2
  have HT2 := hid hT2
  have HF2 := hid hF2
  clear hQ2 hT2 hF2 hP e1
  go_wp2_with fail
  refine hH.mono ?_
  rintro e w3 ⟨rfl, hb3⟩
  have HL : Hid (∀ W, Below w3.heap.size w3 W → Calls Try.prog 15 #[.pointer (some ⟨q, 0, none⟩)] W fun e w' => e = .returned (.int .i64 1) ∧ W = w') := fun W hb => qb_len ((HQ2.out.below hb3).below hb)
  have HB3 : Hid (Below w.heap.size w w3) := by
    have t1 : Tur (fun _ => False) w w2 := HT.out.trans HT2.out (fun i hi => by
      rcases HF.out i hi with e | e
      · exact .inl e
      · exact .inr e)
    exact (t1.below (Nat.le_refl _) (fun k e => e.elim)).trans (hb3.mono t1.size)
  clear hb3 hH
  go_wp2_with fail
  refine (HL.out _ (by repeat (first | with_reducible assumption | with_reducible exact Below.refl _ _ | with_reducible refine Below.drew ?_ | with_reducible refine below_drewN ?_ _ | with_reducible refine below_alloc ?_ _ | with_reducible refine Below.alloc ?_ (by first | omega | (simp; done) | (simp; omega)) _ | with_reducible refine Below.setCell ?_ (by first | omega | (simp; done) | (simp; omega)) _ | with_reducible refine below_setRow ?_ (by first | omega | (simp; done) | (simp; omega)) _))).mono ?_
  rintro e w4 ⟨rfl, rfl⟩
  go_wp2
  go_ret
  exact ⟨rfl, HB3.out.trans (Below.mono (by repeat (first | with_reducible assumption | with_reducible exact Below.refl _ _ | with_reducible refine Below.drew ?_ | with_reducible refine below_drewN ?_ _ | with_reducible refine below_alloc ?_ _ | with_reducible refine Below.alloc ?_ (by first | omega | (simp; done) | (simp; omega)) _ | with_reducible refine Below.setCell ?_ (by first | omega | (simp; done) | (simp; omega)) _ | with_reducible refine below_setRow ?_ (by first | omega | (simp; done) | (simp; omega)) _)) HB3.out.size)⟩
end Go.Proofs.Ytingeijodooocaa
