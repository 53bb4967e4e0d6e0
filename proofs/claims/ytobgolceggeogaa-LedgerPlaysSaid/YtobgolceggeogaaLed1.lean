/- Contracts of chapter 13's New, get, Used: the ledger at a block is a function of the names. -/
import Derived.Test.YtobgolceggeogaaProg
import Derived.Test.YtobgolceggeogaaCls
import Derived.Test.YtobgolceggeogaaVecF
import Derived.Test.YtobgolceggeogaaLed
namespace Go.Proofs.Ytobgolceggeogaa
open Go.RowKit
/-- The ledger at block L: m its map's block, n its accounts' number, A its accounts. -/
def Led (w : World) (L : Nat) (m : Option Nat) (n : Nat) (A : Acc) : Prop :=
  w.heap[L]? = some (.cells #[.map m] 61 (0, 0)) ∧ (match m with | none => n = 0 ∧ A = noA | some b => OwnsM w Try.prog 9 acctV b n A)
theorem led_lt {w : World} {L n : Nat} {m : Option Nat} {A : Acc} (h : Led w L m n A) : L < w.heap.size := lt_of_at h.1
theorem Led.at {w w' : World} {L n : Nat} {m : Option Nat} {A : Acc} (h : Led w L m n A) (e : w'.heap[L]? = w.heap[L]?) (e' : ∀ b, m = some b → w'.heap[b]? = w.heap[b]?) : Led w' L m n A := by
  refine ⟨e.trans h.1, ?_⟩
  obtain ⟨-, h⟩ := h
  cases m with
  | none => exact h
  | some b => exact OwnsM.at h (e' b rfl)
theorem Led.map_lt {w : World} {L n b : Nat} {A : Acc} (h : Led w L (some b) n A) : b < w.heap.size := OwnsM.lt h.2
theorem Led.below {w w' : World} {L n : Nat} {m : Option Nat} {A : Acc} (h : Led w L m n A) (hb : Below w.heap.size w w') : Led w' L m n A :=
  h.at (hb.block _ (led_lt h)) (fun b e => hb.block _ (by subst e; exact h.map_lt))
theorem zero_acct (w : World) : (zeroValue 64).run Try.prog w = .ok (acctV zeroA) w := by kernel_rfl
theorem zero_vec (w : World) : (zeroValue 29).run Try.prog w = .ok (vv zeroV) w := by kernel_rfl
theorem infoA : (Try.prog.info? 64).map (·.size) = some 8 := by kernel_rfl
theorem infoV : (Try.prog.info? 29).map (·.size) = some 4 := by kernel_rfl
set_option maxHeartbeats 400000 in
theorem new_any (w : World) : Calls Try.prog 10 #[] w fun e w' => e = .returned (.pointer (some ⟨w.heap.size, 0, none⟩)) ∧ Below w.heap.size w w' ∧ Led w' w.heap.size none 0 noA := by
  go_enter Try.func10, Try.ntmps10
  go_wp2
  all_goals
    go_ret
    exact ⟨rfl, (by repeat (first | with_reducible assumption | with_reducible exact Below.refl _ _ | with_reducible refine Below.drew ?_ | with_reducible refine below_drewN ?_ _ | with_reducible refine below_alloc ?_ _ | with_reducible refine Below.alloc ?_ (by first | omega | (simp; done) | (simp; omega)) _ | with_reducible refine Below.setCell ?_ (by first | omega | (simp; done) | (simp; omega)) _ | with_reducible refine below_setRow ?_ (by first | omega | (simp; done) | (simp; omega)) _)), ⟨(by (repeat (first | (with_reducible assumption) | (with_reducible exact alloc_at _ _) | ((with_reducible apply alloc_at'); (simp; done)) | (with_reducible apply alloc_at_lt) | (with_reducible apply heap_drew_at) | (with_reducible apply heap_drewN_at) | (with_reducible apply heap_setCell_same) | ((with_reducible apply heap_set_ne); (first | omega | (dsimp only; omega) | (simp; done) | (simp; omega))) | (with_reducible apply setRow_at) | ((with_reducible apply setRow_ne); (first | omega | (dsimp only; omega) | (simp; done) | (simp; omega)))))), rfl, rfl⟩⟩
/-- A look-up in the ledger's map, ok asked, behind whatever is old. -/
theorem Led.look_ok {w : World} {L n : Nat} {m : Option Nat} {A : Acc} (h : Led w L m n A) {s : ByteArray} (hs : s.size ≤ maxLen) {w' : World} (hw : ∀ b, m = some b → w'.heap[b]? = w.heap[b]?) :
    (Instr.lookup 59 (.map m) (.string s) true).run Try.prog w' = .ok (.tuple #[acctV ((A s.data.toList).getD zeroA), .bool (A s.data.toList).isSome]) w' := by
  cases m with
  | none =>
    obtain ⟨-, rfl, rfl⟩ := h
    exact Maps.look_nil true (Maps.string_keyed Try.underlying9) Try.underlying59 (zero_acct w') (WideMaps.keyOf_string_mk Try.underlying9 hs)
  | some b => exact OwnsM.look_ok (OwnsM.at h.2 (hw b rfl)) acctV_inj Try.underlying9 Try.underlying59 (zero_acct w') hs
theorem Led.look {w : World} {L n : Nat} {m : Option Nat} {A : Acc} (h : Led w L m n A) {s : ByteArray} (hs : s.size ≤ maxLen) {w' : World} (hw : ∀ b, m = some b → w'.heap[b]? = w.heap[b]?) :
    (Instr.lookup 59 (.map m) (.string s) false).run Try.prog w' = .ok (acctV ((A s.data.toList).getD zeroA)) w' := by
  cases m with
  | none =>
    obtain ⟨-, rfl, rfl⟩ := h
    exact Maps.look_nil false (Maps.string_keyed Try.underlying9) Try.underlying59 (zero_acct w') (WideMaps.keyOf_string_mk Try.underlying9 hs)
  | some b => exact OwnsM.look (OwnsM.at h.2 (hw b rfl)) acctV_inj Try.underlying9 Try.underlying59 (zero_acct w') hs
theorem led_cell {w : World} {L n : Nat} {m : Option Nat} {A : Acc} (h : Led w L m n A) : w.cell? ⟨L, 0, none⟩ = some (.map m) ∧ ∀ i, w.frozen? ⟨L, i, none⟩ = false :=
  ⟨(blk_cell h.1 0).trans rfl, blk_free h.1⟩
set_option maxHeartbeats 1000000 in
theorem get_any (L n : Nat) (m : Option Nat) (A : Acc) (s : ByteArray) (w : World) (hL : Led w L m n A) (hs : s.size ≤ maxLen) :
    Calls Try.prog 31 #[.pointer (some ⟨L, 0, none⟩), .string s] w fun e w' => e = .returned (.tuple #[acctV ((A s.data.toList).getD zeroA), .int .i64 (if (A s.data.toList).isSome then 0 else 3)]) ∧ Below w.heap.size w w' := by
  have hlt := led_lt hL
  obtain ⟨hc, hf⟩ := led_cell hL
  have hlook : ∀ o, (Instr.lookup 59 (.map m) (.string s) true).run Try.prog (w.alloc o) = .ok (.tuple #[acctV ((A s.data.toList).getD zeroA), .bool (A s.data.toList).isSome]) (w.alloc o) :=
    fun o => hL.look_ok hs (fun b e => Below.heap_alloc _ _ _ (by subst e; exact hL.map_lt))
  clear hL
  cases hA : A s.data.toList with
  | none =>
    rw [hA] at hlook
    simp only [Option.getD_none, Option.isSome_none, Bool.false_eq_true, if_false, acctV, zeroA, zeroV] at hlook ⊢
    go_enter Try.func31, Try.ntmps31
    go_wp2
    refine ret_row2 rfl w.heap.size #[.int .i64 0, .int .i64 0, .int .i64 0, .int .i64 0, .int .i64 0, .int .i64 0, .int .i64 0, .int .i64 0] 64 _ rfl Try.underlying64 rfl infoA rfl (by apply Exists.intro; refine ⟨?_, ?_⟩; (focus ((repeat (first | (with_reducible assumption) | (with_reducible exact alloc_at _ _) | ((with_reducible apply alloc_at'); (simp; done)) | (with_reducible apply alloc_at_lt) | (with_reducible apply heap_drew_at) | (with_reducible apply heap_drewN_at) | (with_reducible apply heap_setCell_same) | ((with_reducible apply heap_set_ne); (first | omega | (dsimp only; omega) | (simp; done) | (simp; omega))) | (with_reducible apply setRow_at) | ((with_reducible apply setRow_ne); (first | omega | (dsimp only; omega) | (simp; done) | (simp; omega))))))); simp) ⟨rfl, (by repeat (first | with_reducible assumption | with_reducible exact Below.refl _ _ | with_reducible refine Below.drew ?_ | with_reducible refine below_drewN ?_ _ | with_reducible refine below_alloc ?_ _ | with_reducible refine Below.alloc ?_ (by first | omega | (simp; done) | (simp; omega)) _ | with_reducible refine Below.setCell ?_ (by first | omega | (simp; done) | (simp; omega)) _ | with_reducible refine below_setRow ?_ (by first | omega | (simp; done) | (simp; omega)) _))⟩
  | some x =>
    obtain ⟨⟨x0, x1, x2, x3⟩, y0, y1, y2, y3⟩ := x
    rw [hA] at hlook
    simp only [Option.getD_some, Option.isSome_some, if_true, acctV] at hlook ⊢
    go_enter Try.func31, Try.ntmps31
    go_wp2
    refine ret_row2 rfl w.heap.size #[.int .i64 x0, .int .i64 x1, .int .i64 x2, .int .i64 x3, .int .i64 y0, .int .i64 y1, .int .i64 y2, .int .i64 y3] 64 _ rfl Try.underlying64 rfl infoA rfl (by apply Exists.intro; refine ⟨?_, ?_⟩; (focus ((repeat (first | (with_reducible assumption) | (with_reducible exact alloc_at _ _) | ((with_reducible apply alloc_at'); (simp; done)) | (with_reducible apply alloc_at_lt) | (with_reducible apply heap_drew_at) | (with_reducible apply heap_drewN_at) | (with_reducible apply heap_setCell_same) | ((with_reducible apply heap_set_ne); (first | omega | (dsimp only; omega) | (simp; done) | (simp; omega))) | (with_reducible apply setRow_at) | ((with_reducible apply setRow_ne); (first | omega | (dsimp only; omega) | (simp; done) | (simp; omega))))))); simp) ⟨rfl, (by repeat (first | with_reducible assumption | with_reducible exact Below.refl _ _ | with_reducible refine Below.drew ?_ | with_reducible refine below_drewN ?_ _ | with_reducible refine below_alloc ?_ _ | with_reducible refine Below.alloc ?_ (by first | omega | (simp; done) | (simp; omega)) _ | with_reducible refine Below.setCell ?_ (by first | omega | (simp; done) | (simp; omega)) _ | with_reducible refine below_setRow ?_ (by first | omega | (simp; done) | (simp; omega)) _))⟩
set_option maxHeartbeats 1000000 in
theorem used_any (L n : Nat) (m : Option Nat) (A : Acc) (s : ByteArray) (w : World) (hL : Led w L m n A) (hs : s.size ≤ maxLen) :
    Calls Try.prog 13 #[.pointer (some ⟨L, 0, none⟩), .string s] w fun e w' => e = .returned (.tuple #[vv (usedOf A s.data.toList), .int .i64 (if (A s.data.toList).isSome then 0 else 3)]) ∧ Below w.heap.size w w' := by
  have hlt := led_lt hL
  have hget : ∀ o, Calls Try.prog 31 #[.pointer (some ⟨L, 0, none⟩), .string s] (w.alloc o) fun e w' => e = .returned (.tuple #[acctV ((A s.data.toList).getD zeroA), .int .i64 (if (A s.data.toList).isSome then 0 else 3)]) ∧ Below (w.alloc o).heap.size (w.alloc o) w' :=
    fun o => get_any L n m A s (w.alloc o) (hL.below ((Below.refl _ _).alloc (Nat.le_refl _) o)) hs
  clear hL
  unfold usedOf
  obtain ⟨⟨⟨x0, x1, x2, x3⟩, y0, y1, y2, y3⟩, hx⟩ : ∃ x, x = (A s.data.toList).getD zeroA := ⟨_, rfl⟩
  obtain ⟨q, hq⟩ : ∃ q : Int, q = if (A s.data.toList).isSome then 0 else 3 := ⟨_, rfl⟩
  rw [← hx, ← hq] at hget
  rw [← hx, ← hq]
  simp only [acctV, vv] at hget ⊢
  clear hx hq
  go_enter Try.func13, Try.ntmps13
  go_wp2_with fail
  refine (hget _).mono ?_
  rintro e w1 ⟨rfl, hb1⟩
  have hs1 := hb1.size
  simp only [World.size_alloc] at hs1
  have B1 : Below w.heap.size w w1 := Below.trans (by repeat (first | with_reducible assumption | with_reducible exact Below.refl _ _ | with_reducible refine Below.drew ?_ | with_reducible refine below_drewN ?_ _ | with_reducible refine below_alloc ?_ _ | with_reducible refine Below.alloc ?_ (by first | omega | (simp; done) | (simp; omega)) _ | with_reducible refine Below.setCell ?_ (by first | omega | (simp; done) | (simp; omega)) _ | with_reducible refine below_setRow ?_ (by first | omega | (simp; done) | (simp; omega)) _)) (hb1.mono (by first | omega | (simp; done) | (simp; omega)))
  have z := below_at hb1 (n := w.heap.size) (by first | omega | (simp; done) | (simp; omega)) (by (repeat (first | (with_reducible assumption) | (with_reducible exact alloc_at _ _) | ((with_reducible apply alloc_at'); (simp; done)) | (with_reducible apply alloc_at_lt) | (with_reducible apply heap_drew_at) | (with_reducible apply heap_drewN_at) | (with_reducible apply heap_setCell_same) | ((with_reducible apply heap_set_ne); (first | omega | (dsimp only; omega) | (simp; done) | (simp; omega))) | (with_reducible apply setRow_at) | ((with_reducible apply setRow_ne); (first | omega | (dsimp only; omega) | (simp; done) | (simp; omega))))))
  obtain ⟨z0, z1, z2, z3, zf⟩ := four z
  have hl1 : w.heap.size < w1.heap.size := by omega
  go_wp2
  refine ret_row2 rfl w.heap.size #[.int .i64 y0, .int .i64 y1, .int .i64 y2, .int .i64 y3] 29 _ rfl Try.underlying29 rfl infoV rfl (by apply Exists.intro; refine ⟨?_, ?_⟩; (focus ((repeat (first | (with_reducible assumption) | (with_reducible exact alloc_at _ _) | ((with_reducible apply alloc_at'); (simp; done)) | (with_reducible apply alloc_at_lt) | (with_reducible apply heap_drew_at) | (with_reducible apply heap_drewN_at) | (with_reducible apply heap_setCell_same) | ((with_reducible apply heap_set_ne); (first | omega | (dsimp only; omega) | (simp; done) | (simp; omega))) | (with_reducible apply setRow_at) | ((with_reducible apply setRow_ne); (first | omega | (dsimp only; omega) | (simp; done) | (simp; omega))))))); simp) ⟨rfl, (by repeat (first | with_reducible assumption | with_reducible exact Below.refl _ _ | with_reducible refine Below.drew ?_ | with_reducible refine below_drewN ?_ _ | with_reducible refine below_alloc ?_ _ | with_reducible refine Below.alloc ?_ (by first | omega | (simp; done) | (simp; omega)) _ | with_reducible refine Below.setCell ?_ (by first | omega | (simp; done) | (simp; omega)) _ | with_reducible refine below_setRow ?_ (by first | omega | (simp; done) | (simp; omega)) _))⟩
end Go.Proofs.Ytobgolceggeogaa
