/- Contract of chapter 13's Close. -/
import Derived.Test.YtobgolceggeogaaLedW
namespace Go.Proofs.Ytobgolceggeogaa
open Go.RowKit
def closeE (A : Acc) (k : List UInt8) : Int := match A k with | none => 3 | some x => if x.2 = zeroV then 0 else 10
def closeA (A : Acc) (k : List UInt8) : Acc := if closeE A k = 0 then delA A k else A
def closeN (A : Acc) (n : Nat) (k : List UInt8) : Nat := if closeE A k = 0 then n - 1 else n
set_option maxRecDepth 20000 in
set_option maxHeartbeats 2000000 in
theorem close_none (L n : Nat) (m : Option Nat) (A : Acc) (s : ByteArray) (w : World) (hL : Led w L m n A) (hs : s.size ≤ maxLen) (hA : A s.data.toList = none) :
    Calls Try.prog 16 #[.pointer (some ⟨L, 0, none⟩), .string s] w fun e w' => e = .returned (.int .i64 3) ∧ Below w.heap.size w w' := by
  have hg := get_any L n m A s w hL hs
  rw [hA] at hg
  simp only [Option.getD_none, Option.isSome_none, Bool.false_eq_true, if_false, acctV, zeroA, zeroV] at hg
  clear hL hs
  go_enter Try.func16, Try.ntmps16
  go_wp2_with fail
  refine hg.mono ?_
  rintro e w1 ⟨rfl, hb1⟩
  have hs1 := hb1.size
  go_wp2
  go_ret
  exact ⟨rfl, (by repeat (first | with_reducible assumption | with_reducible exact Below.refl _ _ | with_reducible refine Below.drew ?_ | with_reducible refine below_drewN ?_ _ | with_reducible refine below_alloc ?_ _ | with_reducible refine Below.alloc ?_ (by first | omega | (simp; done) | (simp; omega)) _ | with_reducible refine Below.setCell ?_ (by first | omega | (simp; done) | (simp; omega)) _ | with_reducible refine below_setRow ?_ (by first | omega | (simp; done) | (simp; omega)) _))⟩
set_option maxRecDepth 20000 in
set_option maxHeartbeats 2000000 in
theorem close_used (L n : Nat) (m : Option Nat) (A : Acc) (s : ByteArray) (w : World) (hL : Led w L m n A) (hs : s.size ≤ maxLen) (x : Acct) (hA : A s.data.toList = some x) (hx : x.2 ≠ zeroV) :
    Calls Try.prog 16 #[.pointer (some ⟨L, 0, none⟩), .string s] w fun e w' => e = .returned (.int .i64 10) ∧ Below w.heap.size w w' := by
  have hg := get_any L n m A s w hL hs
  rw [hA] at hg
  obtain ⟨⟨x0, x1, x2, x3⟩, y0, y1, y2, y3⟩ := x
  have hne : (y0 == 0 && (y1 == 0 && (y2 == 0 && y3 == 0))) = false := by
    simp only [zeroV, ne_eq, Prod.mk.injEq] at hx
    simp only [Bool.and_eq_false_iff, beq_eq_false_iff_ne, ne_eq]
    omega
  simp only [Option.getD_some, Option.isSome_some, if_true, acctV] at hg
  clear hL hs hx
  go_enter Try.func16, Try.ntmps16
  go_wp2_with fail
  refine hg.mono ?_
  rintro e w1 ⟨rfl, hb1⟩
  have hs1 := hb1.size
  go_wp2
  go_ret
  exact ⟨rfl, (by repeat (first | with_reducible assumption | with_reducible exact Below.refl _ _ | with_reducible refine Below.drew ?_ | with_reducible refine below_drewN ?_ _ | with_reducible refine below_alloc ?_ _ | with_reducible refine Below.alloc ?_ (by first | omega | (simp; done) | (simp; omega)) _ | with_reducible refine Below.setCell ?_ (by first | omega | (simp; done) | (simp; omega)) _ | with_reducible refine below_setRow ?_ (by first | omega | (simp; done) | (simp; omega)) _))⟩
set_option maxRecDepth 20000 in
set_option maxHeartbeats 2000000 in
theorem close_ok (L n b' : Nat) (A : Acc) (s : ByteArray) (w : World) (hL : Led w L (some b') n A) (hs : s.size ≤ maxLen) (v : V) (hA : A s.data.toList = some (v, zeroV)) :
    Calls Try.prog 16 #[.pointer (some ⟨L, 0, none⟩), .string s] w fun e w' => e = .returned (.int .i64 0) ∧ Led w' L (some b') (n - 1) (delA A s.data.toList) ∧ w.grownBy w' (some b') := by
  have hg := get_any L n (some b') A s w hL hs
  rw [hA] at hg
  obtain ⟨x0, x1, x2, x3⟩ := v
  simp only [Option.getD_some, Option.isSome_some, if_true, acctV, zeroV] at hg
  have HL := hid hL
  have HS := hid hs
  clear hL hs
  go_enter Try.func16, Try.ntmps16
  go_wp2_with fail
  refine hg.mono ?_
  rintro e w1 ⟨rfl, hb1⟩
  have hs1 := hb1.size
  go_upto_region 6 with fail
  refine wp_name ?_
  intro w2 hw2
  have B2 : Below w.heap.size w w2 := by rw [hw2]; exact (by repeat (first | with_reducible assumption | with_reducible exact Below.refl _ _ | with_reducible refine Below.drew ?_ | with_reducible refine below_drewN ?_ _ | with_reducible refine below_alloc ?_ _ | with_reducible refine Below.alloc ?_ (by first | omega | (simp; done) | (simp; omega)) _ | with_reducible refine Below.setCell ?_ (by first | omega | (simp; done) | (simp; omega)) _ | with_reducible refine below_setRow ?_ (by first | omega | (simp; done) | (simp; omega)) _))
  clear hw2 hb1 hg
  have LED2 := HL.out.below B2
  obtain ⟨lc, lf⟩ := led_cell LED2
  have hlt2 := led_lt LED2
  obtain ⟨w3, hrun, ho3, hg3, hs3⟩ := OwnsM.drop LED2.2 Try.underlying9 Try.underlying59 HS.out 0
  rw [hA] at ho3
  simp only [Option.isSome_some, if_true] at ho3
  have L3 : Led w3 L (some b') (n - 1) (delA A s.data.toList) := ⟨(hg3.block L (led_lt LED2) (by intro e; injection e with e; exact OwnsM.ne LED2.2 LED2.1 e)).trans LED2.1, ho3⟩
  have HL3 := hid L3
  have G3 : w.grownBy w3 (some b') := (grown_below B2 _).andThen hg3 (fun j e => Or.inr e)
  have HG3 := hid G3
  clear L3 G3 ho3 hg3 LED2
  go_wp2
  go_ret
  exact ⟨rfl, HL3.out, HG3.out⟩
theorem Inv.del {A : Acc} (h : Inv A) (k : List UInt8) : Inv (delA A k) := fun j x hj => by
  by_cases e : j = k
  · subst e; rw [delA_same] at hj; cases hj
  · rw [delA_other _ e] at hj; exact h j x hj
theorem close_b (B L n : Nat) (A : Acc) (s : ByteArray) (w : World) (hB : B ≤ w.heap.size) (hL : LedB B w L n A) (hs : s.size ≤ maxLen) :
    Calls Try.prog 16 #[.pointer (some ⟨L, 0, none⟩), .string s] w fun e w' => e = .returned (.int .i64 (closeE A s.data.toList)) ∧ LedB B w' L (closeN A n s.data.toList) (closeA A s.data.toList) ∧ Below B w w' ∧ KeptC w w' L := by
  obtain ⟨h1, h2, h3, m, h, hm⟩ := hL
  cases hA : A s.data.toList with
  | none =>
    have hE : closeE A s.data.toList = 3 := by simp [closeE, hA]
    rw [hE, show closeN A n s.data.toList = n by simp [closeN, hE], show closeA A s.data.toList = A by simp [closeA, hE]]
    exact (close_none L n m A s w h hs hA).mono fun _ w' ⟨g1, g2⟩ => ⟨g1, ⟨h1, h2, h3, m, h.below g2, hm⟩, g2.mono hB, keptC_below g2 L⟩
  | some x =>
    by_cases hx : x.2 = zeroV
    · have hE : closeE A s.data.toList = 0 := by simp [closeE, hA, hx]
      rw [hE, show closeN A n s.data.toList = n - 1 by simp [closeN, hE], show closeA A s.data.toList = delA A s.data.toList by simp [closeA, hE]]
      obtain ⟨v, u⟩ := x
      simp only at hx
      subst hx
      cases m with
      | none => rw [h.2.2] at hA; cases hA
      | some b' => exact (close_ok L n b' A s w h hs v hA).mono fun _ w' ⟨g1, g2, g3⟩ => ⟨g1, ⟨by omega, h2.del _, h3, some b', g2, hm⟩, below_grown g3 hB hm, kept_only g3 (fun cs t f hc => absurd rfl (OwnsM.ne h.2 hc))⟩
    · have hE : closeE A s.data.toList = 10 := by simp [closeE, hA, hx]
      rw [hE, show closeN A n s.data.toList = n by simp [closeN, hE], show closeA A s.data.toList = A by simp [closeA, hE]]
      exact (close_used L n m A s w h hs x hA hx).mono fun _ w' ⟨g1, g2⟩ => ⟨g1, ⟨h1, h2, h3, m, h.below g2, hm⟩, g2.mono hB, keptC_below g2 L⟩
end Go.Proofs.Ytobgolceggeogaa
