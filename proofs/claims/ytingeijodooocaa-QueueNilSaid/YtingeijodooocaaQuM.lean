/- Chapter 14's queue in memory: its two maps; Len, Get. -/
import Derived.Test.YtingeijodooocaaQuL
import Derived.Test.YtingeijodooocaaMpi
import Derived.Test.YtingeijodooocaaMmT
namespace Go.Proofs.Ytingeijodooocaa
open Go.RowKit
def mkW (p : Wt × Nat) : Value := .agg #[.int .i64 p.1.job, .string p.1.ten, .int .i64 p.1.pri, .int .i64 (p.2 : Nat)]
theorem mkW_inj : ∀ x y, mkW x = mkW y → x = y := by
  rintro ⟨⟨a, b, c⟩, d⟩ ⟨⟨a', b', c'⟩, d'⟩ h
  simp only [mkW, Value.agg.injEq, Array.mk.injEq, List.cons.injEq, Value.int.injEq, Value.string.injEq, and_true, true_and] at h
  obtain ⟨h1, h2, h3, h4⟩ := h
  subst h1; subst h2; subst h3
  have : d = d' := by omega
  rw [this]
def mkH : Option Nat → Value
  | none => .pointer none
  | some b => .pointer (some ⟨b, 0, none⟩)
theorem mkH_inj : ∀ x y, mkH x = mkH y → x = y := by
  intro x y h
  cases x <;> cases y <;> simp [mkH] at h
  · rfl
  · rw [h]
def wt0 : Wt × Nat := (⟨0, ByteArray.empty, 0⟩, 0)
theorem zeroWt (w : World) : (zeroValue 62).run Try.prog w = .ok (mkW wt0) w := by kernel_rfl
theorem zeroMh (w : World) : (zeroValue 64).run Try.prog w = .ok (mkH none) w := by kernel_rfl
abbrev WMap := Int → Option (Wt × Nat)
abbrev HMap := List UInt8 → Option (Option Nat)
/-- The queue's block and its maps. -/
structure QuR (B : Nat) (w : World) (q : Nat) (m : Option (Nat × Nat)) (nA : Nat) (A : WMap) (nH : Nat) (Hm : HMap) : Prop where
  hB : B ≤ q
  blk : w.heap[q]? = some (.cells #[.map (m.map (·.1)), .map (m.map (·.2))] 54 (0, 0))
  off : m = none → nA = 0 ∧ A = noI ∧ nH = 0 ∧ Hm = noA
  on : ∀ bm bh, m = some (bm, bh) → OwnsI w Try.prog 2 mkW bm nA A ∧ OwnsM w Try.prog 9 mkH bh nH Hm ∧ B ≤ bm ∧ B ≤ bh ∧ bm ≠ bh
variable {B q nA nH : Nat} {w w' : World} {m : Option (Nat × Nat)} {A : WMap} {Hm : HMap}
theorem QuR.kept (h : QuR B w q m nA A nH Hm) (e : w'.heap[q]? = w.heap[q]?) (e2 : ∀ bm bh, m = some (bm, bh) → w'.heap[bm]? = w.heap[bm]? ∧ w'.heap[bh]? = w.heap[bh]?) : QuR B w' q m nA A nH Hm :=
  ⟨h.hB, e.trans h.blk, h.off, fun bm bh hm => by
    obtain ⟨a, b, c⟩ := h.on bm bh hm
    obtain ⟨x, y⟩ := e2 bm bh hm
    exact ⟨a.at x, b.at y, c⟩⟩
theorem QuR.ltq (h : QuR B w q m nA A nH Hm) : q < w.heap.size := lt_of_at h.blk
theorem QuR.below (h : QuR B w q m nA A nH Hm) (hb : Below w.heap.size w w') : QuR B w' q m nA A nH Hm :=
  h.kept (hb.block q h.ltq) fun bm bh hm => by
    obtain ⟨a, b, -⟩ := h.on bm bh hm
    exact ⟨hb.block _ a.lt, hb.block _ b.lt⟩
theorem QuR.head (h : QuR B w q m nA A nH Hm) : w.cell? ⟨q, 0, none⟩ = some (.map (m.map (·.1))) ∧ w.cell? ⟨q, 1, none⟩ = some (.map (m.map (·.2))) :=
  ⟨(blk_cell h.blk 0).trans rfl, (blk_cell h.blk 1).trans rfl⟩
theorem qlen_g (h : QuR B w q m nA A nH Hm) : Calls Try.prog 15 #[.pointer (some ⟨q, 0, none⟩)] w fun e w' => e = .returned (.int .i64 nA) ∧ w = w' := by
  have c0 := h.head.1
  have hl := h.ltq
  rcases m with _ | ⟨bm, bh⟩
  · obtain ⟨rfl, -⟩ := h.off rfl
    rw [Option.map_none] at c0
    clear h
    go_enter Try.func15, Try.ntmps15
    go_wp2
    go_ret
    exact ⟨rfl, rfl⟩
  · have hlen : (Builtin.len_ #[51] 3 #[.map (some bm)]).run Try.prog w = .ok (.int .i64 nA) w := (h.on bm bh rfl).1.len Try.underlying51 _
    rw [Option.map_some] at c0
    clear h
    go_enter Try.func15, Try.ntmps15
    go_wp2
    go_ret
    exact ⟨rfl, rfl⟩
theorem infoW : (Try.prog.info? 29).map (·.size) = some 3 := by kernel_rfl
/-- The looked-up waiter, in any world that has the queue. -/
theorem QuR.look (h : QuR B w q m nA A nH Hm) (j : Int) (hj : (Lit.int .i64 j).wf = true) :
    ∀ W, Below w.heap.size w W → (Instr.lookup 51 (.map (m.map (·.1))) (.int .i64 j) true).run Try.prog W = .ok (.tuple #[mkW ((A j).getD wt0), .bool (A j).isSome]) W := by
  intro W hb
  have h2 := h.below hb
  rcases m with _ | ⟨bm, bh⟩
  · obtain ⟨-, rfl, -⟩ := h.off rfl
    exact Maps.look_nil true (Maps.int_keyed Try.underlying2) Try.underlying51 (zeroWt W) (Maps.keyOf_int_mk Try.underlying2 hj)
  · exact (h2.on bm bh rfl).1.look_ok mkW_inj Try.underlying2 Try.underlying51 (zeroWt W) hj
set_option maxHeartbeats 2000000 in
theorem qget_g (h : QuR B w q m nA A nH Hm) (j : Int) (hj : (Lit.int .i64 j).wf = true) :
    Calls Try.prog 16 #[.pointer (some ⟨q, 0, none⟩), .int .i64 j] w fun e w' =>
      e = .returned (.tuple #[.agg #[.int .i64 ((A j).getD wt0).1.job, .string ((A j).getD wt0).1.ten, .int .i64 ((A j).getD wt0).1.pri], .int .i64 (if (A j).isSome then 0 else 3)]) ∧ Below w.heap.size w w' := by
  have hlook := h.look j hj
  have c0 := h.head.1
  have hlq := h.ltq
  clear h
  generalize m.map (·.1) = mm at *
  cases hA : A j with
  | none =>
    rw [hA] at hlook
    simp only [Option.getD_none, Option.isSome_none, Bool.false_eq_true, if_false, mkW, wt0] at hlook ⊢
    have hlook' : ∀ o, (Instr.lookup 51 (.map mm) (.int .i64 j) true).run Try.prog (w.alloc o) = .ok (.tuple #[.agg #[.int .i64 0, .string ByteArray.empty, .int .i64 0, .int .i64 ((0 : Nat) : Int)], .bool false]) (w.alloc o) := fun o => hlook _ ((Below.refl _ _).alloc (Nat.le_refl _) o)
    clear hlook
    go_enter Try.func16, Try.ntmps16
    go_wp2
    refine ret_row2 rfl w.heap.size #[.int .i64 0, .string ⟨#[]⟩, .int .i64 0] 29 _ rfl Try.underlying29 rfl infoW rfl (by apply Exists.intro; refine ⟨?_, ?_⟩; (focus ((repeat (first | (with_reducible assumption) | (with_reducible exact alloc_at _ _) | ((with_reducible apply alloc_at'); (simp; done)) | (with_reducible apply alloc_at_lt) | (with_reducible apply heap_drew_at) | (with_reducible apply heap_drewN_at) | (with_reducible apply heap_setCell_same) | ((with_reducible apply heap_set_ne); (first | omega | (dsimp only; omega) | (simp; done) | (simp; omega))) | (with_reducible apply setRow_at) | ((with_reducible apply setRow_ne); (first | omega | (dsimp only; omega) | (simp; done) | (simp; omega))))))); simp) ⟨rfl, (by repeat (first | with_reducible assumption | with_reducible exact Below.refl _ _ | with_reducible refine Below.drew ?_ | with_reducible refine below_drewN ?_ _ | with_reducible refine below_alloc ?_ _ | with_reducible refine Below.alloc ?_ (by first | omega | (simp; done) | (simp; omega)) _ | with_reducible refine Below.setCell ?_ (by first | omega | (simp; done) | (simp; omega)) _ | with_reducible refine below_setRow ?_ (by first | omega | (simp; done) | (simp; omega)) _))⟩
  | some x =>
    obtain ⟨⟨a, b, c⟩, d⟩ := x
    rw [hA] at hlook
    simp only [Option.getD_some, Option.isSome_some, if_true, mkW] at hlook ⊢
    have hlook' : ∀ o, (Instr.lookup 51 (.map mm) (.int .i64 j) true).run Try.prog (w.alloc o) = .ok (.tuple #[.agg #[.int .i64 a, .string b, .int .i64 c, .int .i64 (d : Nat)], .bool true]) (w.alloc o) := fun o => hlook _ ((Below.refl _ _).alloc (Nat.le_refl _) o)
    clear hlook
    go_enter Try.func16, Try.ntmps16
    go_wp2
    refine ret_row2 rfl w.heap.size #[.int .i64 a, .string b, .int .i64 c] 29 _ rfl Try.underlying29 rfl infoW rfl (by apply Exists.intro; refine ⟨?_, ?_⟩; (focus ((repeat (first | (with_reducible assumption) | (with_reducible exact alloc_at _ _) | ((with_reducible apply alloc_at'); (simp; done)) | (with_reducible apply alloc_at_lt) | (with_reducible apply heap_drew_at) | (with_reducible apply heap_drewN_at) | (with_reducible apply heap_setCell_same) | ((with_reducible apply heap_set_ne); (first | omega | (dsimp only; omega) | (simp; done) | (simp; omega))) | (with_reducible apply setRow_at) | ((with_reducible apply setRow_ne); (first | omega | (dsimp only; omega) | (simp; done) | (simp; omega))))))); simp) ⟨rfl, (by repeat (first | with_reducible assumption | with_reducible exact Below.refl _ _ | with_reducible refine Below.drew ?_ | with_reducible refine below_drewN ?_ _ | with_reducible refine below_alloc ?_ _ | with_reducible refine Below.alloc ?_ (by first | omega | (simp; done) | (simp; omega)) _ | with_reducible refine Below.setCell ?_ (by first | omega | (simp; done) | (simp; omega)) _ | with_reducible refine below_setRow ?_ (by first | omega | (simp; done) | (simp; omega)) _))⟩
end Go.Proofs.Ytingeijodooocaa
