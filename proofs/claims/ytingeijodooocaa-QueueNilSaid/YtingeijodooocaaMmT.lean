/- Chapter 14's interval heap: told, Min, New. -/
import Derived.Test.YtingeijodooocaaMmI
namespace Go.Proofs.Ytingeijodooocaa
open Go.RowKit
variable {B H : Nat} {w w' : World} {va vk vs : Value} {S T : Mm}
/-- Three results, the second of them in a block that is known whole. -/
theorem results_row3 {P : Program} {fn : Func} {p u v : Tmp} {ty : TypeId} (h : fn.results = #[.tmp u, .cell p ty, .tmp v]) (tmps : Array Value) (w : World) (g : Nat) (t : TypeId) (cs : Array Value) (fr : Nat × Nat) (d : TypeDesc)
    (hp : tmps.getD p undef = .pointer (some ⟨g, 0, none⟩)) (hg : w.heap[g]? = some (.cells cs t fr))
    (hu : P.underlying ty = some d) (hd : (match d with | .struct _ | .array _ _ => true | _ => false) = true) (hi : (P.info? ty).map (·.size) = some cs.size) :
    (results fn tmps).run P w = .ok (.tuple #[tmps.getD u undef, .agg cs, tmps.getD v undef]) w := by
  have hp' : tmps[p]?.getD undef = .pointer (some ⟨g, 0, none⟩) := by simpa using hp
  simp only [results, h]
  simp [Result.andThen, asAddr, hp', run_loadVar_row w g t ty cs fr d hg hu hd hi]
theorem ret_row3 {P : Program} {fn : Func} {R : Ending → World → Prop} {a : Act} {w : World} {p u v : Tmp} {ty : TypeId} (h : fn.results = #[.tmp u, .cell p ty, .tmp v]) (g : Nat) (cs : Array Value) (t : TypeId) (d : TypeDesc)
    (hp : a.tmps.getD p undef = .pointer (some ⟨g, 0, none⟩)) (hu : P.underlying ty = some d) (hd : (match d with | .struct _ | .array _ _ => true | _ => false) = true)
    (hi : (P.info? ty).map (·.size) = some cs.size) (hdf : a.defers = []) (hg : ∃ cs', w.heap[g]? = some (.cells cs' t (0, 0)) ∧ cs' = cs)
    (hR : R (.returned (.tuple #[a.tmps.getD u undef, .agg cs, a.tmps.getD v undef])) w) : bodyPost P fn R .ret a w := by
  obtain ⟨_, hg, rfl⟩ := hg
  exact bodyPost_ret (results_row3 h a.tmps w g t _ (0, 0) d hp hg hu hd hi) hdf hR
theorem infoMK : (Try.prog.info? 69).map (·.size) = some 3 := by kernel_rfl
/-- What Min reads. -/
theorem MmV.first (h : MmV B w H va vk vs S) (hl : Lnk S) (h0 : 0 < S.n) : ∃ g cap g2 cap2, va = .slice (some ⟨g, 0, none⟩) S.n cap ∧ vk = .slice (some ⟨g2, 0, none⟩) S.m cap2 ∧ g < w.heap.size ∧ g2 < w.heap.size ∧
    w.cell? ⟨g, 0, none⟩ = some (.int .i64 (S.e 0 : Nat)) ∧ w.cell? ⟨g2, S.e 0 * 3, none⟩ = some (.int .i64 (S.k (S.e 0)).1) ∧ w.cell? ⟨g2, S.e 0 * 3 + 1, none⟩ = some (.int .i64 (S.k (S.e 0)).2.1) ∧ w.cell? ⟨g2, S.e 0 * 3 + 2, none⟩ = some (.int .i64 (S.k (S.e 0)).2.2) := by
  obtain ⟨g, cap, e1, -, hg, -, hc⟩ := rowI_cells h.ra h0
  obtain ⟨g2, cap2, e2, -, hg2, -, hk⟩ := rowK_cells h.rk (by have := hl.nb; omega)
  obtain ⟨k0, k1, k2⟩ := hk _ (hl.at_ 0 h0).1
  rw [Nat.add_zero] at k0
  exact ⟨g, cap, g2, cap2, e1, e2, hg, hg2, hc 0 h0, k0, k1, k2⟩
set_option maxRecDepth 20000 in
set_option maxHeartbeats 4000000 in
theorem mtold_g (h : MmV B w H va vk vs S) (hl : Lnk S) (h0 : 0 < S.n) :
    Calls Try.prog 48 #[.pointer (some ⟨H, 0, none⟩), .int .i64 0] w fun e w' => e = .returned (.tuple #[.int .i64 (S.e 0 : Nat), .agg #[.int .i64 (S.k (S.e 0)).1, .int .i64 (S.k (S.e 0)).2.1, .int .i64 (S.k (S.e 0)).2.2], .int .i64 0]) ∧ Below w.heap.size w w' := by
  have HL : Hid (∀ W, Below w.heap.size w W → Calls Try.prog 34 #[.pointer (some ⟨H, 0, none⟩)] W fun e w' => e = .returned (.int .i64 S.n) ∧ W = w') := fun W hb => mlen_g (h.below hb)
  obtain ⟨g, cap, g2, cap2, rfl, rfl, hgl, hgl2, a0, k0, k1, k2⟩ := h.first hl h0
  obtain ⟨c0, c1, -⟩ := h.head
  have hlH := h.ltH
  have hem := (hl.at_ 0 h0).1
  have hnz : ((S.n : Int) == 0) = false := by simp; omega
  generalize S.k (S.e 0) = k at *
  obtain ⟨z0, z1, z2⟩ := k
  simp only at k0 k1 k2 ⊢
  generalize S.e 0 = x at *
  generalize S.n = n at *
  generalize S.m = m at *
  have ix : (x : Int) < (m : Int) := by omega
  have i0 : (0 : Int) < (n : Int) := by omega
  have h0n := h0
  clear h hl hem
  go_enter Try.func48, Try.ntmps48
  go_wp2_with fail
  refine (HL.out _ (by repeat (first | with_reducible assumption | with_reducible exact Below.refl _ _ | with_reducible refine Below.drew ?_ | with_reducible refine below_drewN ?_ _ | with_reducible refine below_alloc ?_ _ | with_reducible refine Below.alloc ?_ (by first | omega | (simp; done) | (simp; omega)) _ | with_reducible refine Below.setCell ?_ (by first | omega | (simp; done) | (simp; omega)) _ | with_reducible refine below_setRow ?_ (by first | omega | (simp; done) | (simp; omega)) _))).mono ?_
  rintro e w1 ⟨rfl, rfl⟩
  go_wp2
  go_region_held3 (fun w' => w'.cell? ⟨H, 0, none⟩ = some (.slice (some ⟨g, 0, none⟩) n cap) ∧ w'.cell? ⟨H, 1, none⟩ = some (.slice (some ⟨g2, 0, none⟩) m cap2) ∧ w'.cell? ⟨g, 0, none⟩ = some (.int .i64 x) ∧ w'.cell? ⟨g2, x * 3, none⟩ = some (.int .i64 z0) ∧ w'.cell? ⟨g2, x * 3 + 1, none⟩ = some (.int .i64 z1) ∧ w'.cell? ⟨g2, x * 3 + 2, none⟩ = some (.int .i64 z2)) (go_keep) (fail)
  all_goals
    go_wp2
    refine ret_row3 rfl w.heap.size #[.int .i64 z0, .int .i64 z1, .int .i64 z2] 69 _ rfl Try.underlying69 rfl infoMK rfl (by apply Exists.intro; refine ⟨?_, ?_⟩; (focus ((repeat (first | (with_reducible assumption) | (with_reducible exact alloc_at _ _) | ((with_reducible apply alloc_at'); (simp; done)) | (with_reducible apply alloc_at_lt) | (with_reducible apply heap_drew_at) | (with_reducible apply heap_drewN_at) | (with_reducible apply heap_setCell_same) | ((with_reducible apply heap_set_ne); (first | omega | (dsimp only; omega) | (simp; done) | (simp; omega))) | (with_reducible apply setRow_at) | ((with_reducible apply setRow_ne); (first | omega | (dsimp only; omega) | (simp; done) | (simp; omega))))))); simp) ⟨rfl, (by repeat (first | with_reducible assumption | with_reducible exact Below.refl _ _ | with_reducible refine Below.drew ?_ | with_reducible refine below_drewN ?_ _ | with_reducible refine below_alloc ?_ _ | with_reducible refine Below.alloc ?_ (by first | omega | (simp; done) | (simp; omega)) _ | with_reducible refine Below.setCell ?_ (by first | omega | (simp; done) | (simp; omega)) _ | with_reducible refine below_setRow ?_ (by first | omega | (simp; done) | (simp; omega)) _))⟩
theorem mmin_g (h : MmV B w H va vk vs S) (hl : Lnk S) (h0 : 0 < S.n) :
    Calls Try.prog 28 #[.pointer (some ⟨H, 0, none⟩)] w fun e w' => e = .returned (.tuple #[.int .i64 (S.e 0 : Nat), .agg #[.int .i64 (S.k (S.e 0)).1, .int .i64 (S.k (S.e 0)).2.1, .int .i64 (S.k (S.e 0)).2.2], .int .i64 0]) ∧ Below w.heap.size w w' := by
  have HT : Hid (∀ W, Below w.heap.size w W → Calls Try.prog 48 #[.pointer (some ⟨H, 0, none⟩), .int .i64 0] W fun e w' => e = .returned (.tuple #[.int .i64 (S.e 0 : Nat), .agg #[.int .i64 (S.k (S.e 0)).1, .int .i64 (S.k (S.e 0)).2.1, .int .i64 (S.k (S.e 0)).2.2], .int .i64 0]) ∧ Below W.heap.size W w') := fun W hb => mtold_g (h.below hb) hl h0
  generalize S.k (S.e 0) = k at *
  obtain ⟨z0, z1, z2⟩ := k
  simp only at HT ⊢
  generalize S.e 0 = x at *
  clear h hl h0
  go_enter Try.func28, Try.ntmps28
  go_wp2_with fail
  refine (HT.out _ (by repeat (first | with_reducible assumption | with_reducible exact Below.refl _ _ | with_reducible refine Below.drew ?_ | with_reducible refine below_drewN ?_ _ | with_reducible refine below_alloc ?_ _ | with_reducible refine Below.alloc ?_ (by first | omega | (simp; done) | (simp; omega)) _ | with_reducible refine Below.setCell ?_ (by first | omega | (simp; done) | (simp; omega)) _ | with_reducible refine below_setRow ?_ (by first | omega | (simp; done) | (simp; omega)) _))).mono ?_
  rintro e w1 ⟨rfl, hb1⟩
  have A1 : w1.heap[w.heap.size]? = some (.cells #[.int .i64 0, .int .i64 0, .int .i64 0] 69 (0, 0)) := (hb1.block _ (by simp)).trans (by (repeat (first | (with_reducible assumption) | (with_reducible exact alloc_at _ _) | ((with_reducible apply alloc_at'); (simp; done)) | (with_reducible apply alloc_at_lt) | (with_reducible apply heap_drew_at) | (with_reducible apply heap_drewN_at) | (with_reducible apply heap_setCell_same) | ((with_reducible apply heap_set_ne); (first | omega | (dsimp only; omega) | (simp; done) | (simp; omega))) | (with_reducible apply setRow_at) | ((with_reducible apply setRow_ne); (first | omega | (dsimp only; omega) | (simp; done) | (simp; omega))))))
  have hs1 := hb1.size
  simp only [World.size_alloc] at hs1
  have B1 : Below w.heap.size w w1 := Below.trans (by repeat (first | with_reducible assumption | with_reducible exact Below.refl _ _ | with_reducible refine Below.drew ?_ | with_reducible refine below_drewN ?_ _ | with_reducible refine below_alloc ?_ _ | with_reducible refine Below.alloc ?_ (by first | omega | (simp; done) | (simp; omega)) _ | with_reducible refine Below.setCell ?_ (by first | omega | (simp; done) | (simp; omega)) _ | with_reducible refine below_setRow ?_ (by first | omega | (simp; done) | (simp; omega)) _)) (hb1.mono (by first | omega | (simp; done) | (simp; omega)))
  have l1 := lt_of_at A1
  have q0 : w1.cell? ⟨w.heap.size, 0, none⟩ = some (.int .i64 0) := (blk_cell A1 0).trans rfl
  have q1 : w1.cell? ⟨w.heap.size, 1, none⟩ = some (.int .i64 0) := (blk_cell A1 1).trans rfl
  have q2 : w1.cell? ⟨w.heap.size, 2, none⟩ = some (.int .i64 0) := (blk_cell A1 2).trans rfl
  have qf := blk_free A1
  clear hb1
  go_wp2
  refine ret_row3 rfl w.heap.size #[.int .i64 z0, .int .i64 z1, .int .i64 z2] 69 _ rfl Try.underlying69 rfl infoMK rfl (by apply Exists.intro; refine ⟨?_, ?_⟩; (focus ((repeat (first | (with_reducible assumption) | (with_reducible exact alloc_at _ _) | ((with_reducible apply alloc_at'); (simp; done)) | (with_reducible apply alloc_at_lt) | (with_reducible apply heap_drew_at) | (with_reducible apply heap_drewN_at) | (with_reducible apply heap_setCell_same) | ((with_reducible apply heap_set_ne); (first | omega | (dsimp only; omega) | (simp; done) | (simp; omega))) | (with_reducible apply setRow_at) | ((with_reducible apply setRow_ne); (first | omega | (dsimp only; omega) | (simp; done) | (simp; omega))))))); simp) ⟨rfl, (by repeat (first | with_reducible assumption | with_reducible exact Below.refl _ _ | with_reducible refine Below.drew ?_ | with_reducible refine below_drewN ?_ _ | with_reducible refine below_alloc ?_ _ | with_reducible refine Below.alloc ?_ (by first | omega | (simp; done) | (simp; omega)) _ | with_reducible refine Below.setCell ?_ (by first | omega | (simp; done) | (simp; omega)) _ | with_reducible refine below_setRow ?_ (by first | omega | (simp; done) | (simp; omega)) _))⟩
end Go.Proofs.Ytingeijodooocaa
