/- QueuePlays: one step: a walk for each kind of call. -/
import Derived.Test.YtingeijodooocaaQwA
import Derived.Deep.RegionHeld3
namespace Go.Proofs.Ytingeijodooocaa
open Go.RowKit
variable {w0 w w' : World} {q g c : Nat} {L : List Wt} {u : Wt}
abbrev oQ (kd : Int) (u : Wt) : Value := .agg #[.int .i64 kd, .int .i64 u.job, .string u.ten, .int .i64 u.pri]
/-- What a step leaves. -/
def Sp (w0 w' : World) (q g c : Nat) : Prop := ∃ L, Du w0 w' q g L L (c + 1) (fun _ => False)
theorem Sp.of {P : Nat → Prop} (h : Du w0 w q g L L (c + 1) P) (hb : Below w.heap.size w w') : Sp w0 w' q g c := ⟨L, (h.below hb).less fun _ h => h.elim⟩
set_option maxRecDepth 100000 in
set_option maxHeartbeats 8000000 in
theorem qstep_1 (h : Du w0 w q g L L c (fun _ => False)) (hc : c + 1 ≤ 600) (hu : okW u) : Calls Try.prog 18 #[.pointer (some ⟨q, 0, none⟩), .pointer (some ⟨g, 0, none⟩), oQ 1 u] w fun e w' => e = .returned (.bool true) ∧ Sp w0 w' q g c := by
  have HH := hid h
  have HU := hid hu
  have HC := hid hc
  have hcl := h.qs.len
  have HLL : Hid (L.length ≤ 600) := by unfold Hid; omega
  obtain ⟨j, t, p⟩ := u
  unfold oQ
  simp only
  clear h hu hc hcl
  go_enter Try.func18, Try.ntmps18
  go_upto_region 4 with (fail)
  refine wp_name ?_
  intro w1 hw1
  have A1 : w1.heap[w.heap.size + 1]? = some (.cells #[.int .i64 j, .string t, .int .i64 p] 29 (0, 0)) := by rw [hw1]; exact (by (repeat (first | (with_reducible assumption) | (with_reducible exact alloc_at _ _) | ((with_reducible apply alloc_at'); (simp; done)) | (with_reducible apply alloc_at_lt) | (with_reducible apply heap_drew_at) | (with_reducible apply heap_drewN_at) | (with_reducible apply heap_setCell_same) | ((with_reducible apply heap_set_ne); (first | omega | (dsimp only; omega) | (simp; done) | (simp; omega))) | (with_reducible apply setRow_at) | ((with_reducible apply setRow_ne); (first | omega | (dsimp only; omega) | (simp; done) | (simp; omega))))))
  have b1 : Below w.heap.size w w1 := by rw [hw1]; exact (by repeat (first | with_reducible assumption | with_reducible exact Below.refl _ _ | with_reducible refine Below.drew ?_ | with_reducible refine below_drewN ?_ _ | with_reducible refine below_alloc ?_ _ | with_reducible refine Below.alloc ?_ (by first | omega | (simp; done) | (simp; omega)) _ | with_reducible refine Below.setCell ?_ (by first | omega | (simp; done) | (simp; omega)) _ | with_reducible refine below_setRow ?_ (by first | omega | (simp; done) | (simp; omega)) _))
  obtain ⟨X, hX⟩ : ∃ X, X = w.heap.size + 1 := ⟨_, rfl⟩
  rw [← hX] at A1 ⊢
  have HD1 : Hid (Du w0 w1 q g L L c (fun k => k = X)) := HH.out.add b1 (fun k hk => .inr (by rw [hk, hX]; omega))
  have HA1 := hid A1
  obtain ⟨E, hE⟩ : ∃ E, E = errQ L ⟨j, t, p⟩ := ⟨_, rfl⟩
  have HE := hid hE
  have HPU : Hid (∀ W, Below w1.heap.size w1 W → Calls Try.prog 10 #[.pointer (some ⟨q, 0, none⟩), .agg #[.int .i64 j, .string t, .int .i64 p]] W fun e w' => e = .returned (.int .i64 E) ∧ Du w0 w' q g (pushQ L ⟨j, t, p⟩) L (c + 1) (fun k => k = X) ∧ w'.heap[X]? = some (.cells #[.int .i64 j, .string t, .int .i64 p] 29 (0, 0))) := fun W hb => by
    have hXW : W.heap[X]? = some (.cells #[.int .i64 j, .string t, .int .i64 p] 29 (0, 0)) := (hb.block _ (lt_of_at HA1.out)).trans HA1.out
    have := du_push (HD1.out.below hb) (fun k hk => by rw [hk]; exact lt_of_at hXW) (u := ⟨j, t, p⟩) HU.out.1 (by have := HC.out; omega)
    refine this.mono ?_
    rintro e w' ⟨rfl, h2, h3⟩
    exact ⟨by rw [HE.out], h2, (h3.2 X rfl (lt_of_at hXW)).trans hXW⟩
  have HRP : Hid (∀ W2 W, Du w0 W2 q g (pushQ L ⟨j, t, p⟩) L (c + 1) (fun k => k = X) → W2.heap[X]? = some (.cells #[.int .i64 j, .string t, .int .i64 p] 29 (0, 0)) → Below W2.heap.size W2 W → Calls Try.prog 19 #[.pointer (some ⟨g, 0, none⟩), .agg #[.int .i64 j, .string t, .int .i64 p]] W fun e w' => e = .returned (.int .i64 E) ∧ Du w0 w' q g (pushQ L ⟨j, t, p⟩) (pushQ L ⟨j, t, p⟩) (c + 1) (fun k => k = X) ∧ w'.heap[X]? = some (.cells #[.int .i64 j, .string t, .int .i64 p] 29 (0, 0))) := fun W2 W hd hx hb => by
    have hXW : W.heap[X]? = some (.cells #[.int .i64 j, .string t, .int .i64 p] 29 (0, 0)) := (hb.block _ (lt_of_at hx)).trans hx
    have := du_rpush (hd.below hb) HH.out.qs.srt (by have := HLL.out; omega) (fun k hk => by rw [hk]; exact lt_of_at hXW) ⟨j, t, p⟩
    refine this.mono ?_
    rintro e w' ⟨rfl, h2, h3⟩
    exact ⟨by rw [HE.out], h2, (h3.2 X rfl (lt_of_at hXW)).trans hXW⟩
  have HPL := hid (plain_q j p t)
  have x0 : w1.cell? ⟨X, 0, none⟩ = some (.int .i64 j) := (blk_cell A1 0).trans rfl
  have x1 : w1.cell? ⟨X, 1, none⟩ = some (.string t) := (blk_cell A1 1).trans rfl
  have x2 : w1.cell? ⟨X, 2, none⟩ = some (.int .i64 p) := (blk_cell A1 2).trans rfl
  have xl := lt_of_at A1
  clear hw1 b1 hX A1 hE HD1
  go_region_held3 (fun w' => w'.cell? ⟨X, 0, none⟩ = some (.int .i64 j) ∧ w'.cell? ⟨X, 1, none⟩ = some (.string t) ∧ w'.cell? ⟨X, 2, none⟩ = some (.int .i64 p)) ((refine ⟨?_, ?_, ?_⟩) <;> (first | (with_reducible assumption) | (go_keep; done))) (first
    | (go_at_call 10; refine (HPU.out _ (by repeat (first | with_reducible assumption | with_reducible exact Below.refl _ _ | with_reducible refine Below.drew ?_ | with_reducible refine below_drewN ?_ _ | with_reducible refine below_alloc ?_ _ | with_reducible refine Below.alloc ?_ (by first | omega | (simp; done) | (simp; omega)) _ | with_reducible refine Below.setCell ?_ (by first | omega | (simp; done) | (simp; omega)) _ | with_reducible refine below_setRow ?_ (by first | omega | (simp; done) | (simp; omega)) _))).mono ?_; rintro e w2 ⟨rfl, hd2, hx2⟩; have x20 : w2.cell? ⟨X, 0, none⟩ = some (.int .i64 j) := (blk_cell hx2 0).trans rfl; have x21 : w2.cell? ⟨X, 1, none⟩ = some (.string t) := (blk_cell hx2 1).trans rfl; have x22 : w2.cell? ⟨X, 2, none⟩ = some (.int .i64 p) := (blk_cell hx2 2).trans rfl; have HD2 := hid hd2; have HX2 := hid hx2; clear hd2 hx2)
    | (go_at_call 20; refine (HPL.out _).mono ?_; rintro e w3 ⟨rfl, hb3⟩; have hb23 : Below w2.heap.size w2 w3 := Below.trans (by repeat (first | with_reducible assumption | with_reducible exact Below.refl _ _ | with_reducible refine Below.drew ?_ | with_reducible refine below_drewN ?_ _ | with_reducible refine below_alloc ?_ _ | with_reducible refine Below.alloc ?_ (by first | omega | (simp; done) | (simp; omega)) _ | with_reducible refine Below.setCell ?_ (by first | omega | (simp; done) | (simp; omega)) _ | with_reducible refine below_setRow ?_ (by first | omega | (simp; done) | (simp; omega)) _)) (hb3.mono (by first | omega | (simp; done) | (simp; omega))); have hx3 := (hb23.block _ (lt_of_at HX2.out)).trans HX2.out; have x30 : w3.cell? ⟨X, 0, none⟩ = some (.int .i64 j) := (blk_cell hx3 0).trans rfl; have x31 : w3.cell? ⟨X, 1, none⟩ = some (.string t) := (blk_cell hx3 1).trans rfl; have x32 : w3.cell? ⟨X, 2, none⟩ = some (.int .i64 p) := (blk_cell hx3 2).trans rfl; have HD3 := hid (HD2.out.below hb23); have HX3 := hid hx3; clear hb3 hx3)
    | (go_at_call 19; refine (HRP.out w3 _ HD3.out HX3.out (by repeat (first | with_reducible assumption | with_reducible exact Below.refl _ _ | with_reducible refine Below.drew ?_ | with_reducible refine below_drewN ?_ _ | with_reducible refine below_alloc ?_ _ | with_reducible refine Below.alloc ?_ (by first | omega | (simp; done) | (simp; omega)) _ | with_reducible refine Below.setCell ?_ (by first | omega | (simp; done) | (simp; omega)) _ | with_reducible refine below_setRow ?_ (by first | omega | (simp; done) | (simp; omega)) _))).mono ?_; rintro e w4 ⟨rfl, hd4, hx4⟩; have x40 : w4.cell? ⟨X, 0, none⟩ = some (.int .i64 j) := (blk_cell hx4 0).trans rfl; have x41 : w4.cell? ⟨X, 1, none⟩ = some (.string t) := (blk_cell hx4 1).trans rfl; have x42 : w4.cell? ⟨X, 2, none⟩ = some (.int .i64 p) := (blk_cell hx4 2).trans rfl; have HD4 := hid hd4; clear hd4 hx4))
  all_goals
    have hEE : (E == E) = true := by simp
    go_wp2
    go_ret
    exact ⟨by simp, Sp.of HD4.out (by repeat (first | with_reducible assumption | with_reducible exact Below.refl _ _ | with_reducible refine Below.drew ?_ | with_reducible refine below_drewN ?_ _ | with_reducible refine below_alloc ?_ _ | with_reducible refine Below.alloc ?_ (by first | omega | (simp; done) | (simp; omega)) _ | with_reducible refine Below.setCell ?_ (by first | omega | (simp; done) | (simp; omega)) _ | with_reducible refine below_setRow ?_ (by first | omega | (simp; done) | (simp; omega)) _))⟩
end Go.Proofs.Ytingeijodooocaa
