/- slices.Collect of the nodes that an iterator gives: a row of the call's own. -/
import Derived.Test.YtkplhobiciddoaaWkV
namespace Go.Proofs.Ytkplhobiciddoaa
open Go.RowKit Go.Maps Go.WideShapes
attribute [local go_sem] Oper.semAt_some
theorem infoNd : (Try.prog.info? 34).map (fun i => (i.zero, i.size, i.bytes)) = some (some (ndV zeroN), 8, (Try.prog.info? 34).map (·.bytes) |>.getD 0) := by kernel_rfl
theorem bytesNd : ((Try.prog.info? 34).map (·.bytes)).getD 0 ≤ 1000 := by decide +kernel
/-- A node in a box of its own stands where only what is no cells is turned. -/
theorem box_node_own (B : Nat) (x : Nd) (b0 : Nat) : OwnFrom b0 (fun (_ : Unit) W => W.heap[B]? = some (.cells (cellsN x).toArray 34 (0, 0))) := fun _ X Y row hs hg hr => by
  refine (hg.block B (lt_of_at hs) (fun e => ?_)).trans hs
  obtain ⟨-, o, ho, hc⟩ := hr B e.symm
  rw [show X.heap[B]? = _ from hs] at ho
  cases ho; cases hc
theorem cells_new (x : Nd) (w : World) : ∀ j u, (cellsN x)[j]? = some u → (w.alloc (.cells (cellsN x).toArray 34 (0, 0))).cell? ((⟨w.heap.size, 0, none⟩ : Addr).add j) = some u := World.news_of_block (alloc_at w _)
set_option maxRecDepth 100000 in
set_option maxHeartbeats 4000000 in
theorem appendSeq_in (F : Fence) (n : Nat) (hf : F.fn 65) (hro : F.round = none) (hn : 3 ≤ n) (g : Nat) (lb : Array Value) (hFg : F.fn g) (eg : ∀ args w, (callFunc g args).run Try.prog w = .ok (.enter g args) w)
    (L : List Nd) (hL : L.length ≤ 12) (w : World) (hseq : ∀ w', Below w.heap.size w w' → SeqStopsK F (n - 1) Try.prog g lb (fun x : Nd => #[ndV x]) KeepsWalks (fun ss => ss.Perm L) (fun _ => True) L.length w') :
    CallsIn F n Try.prog 65 #[.slice none 0 0, .func (.func g) #[] lb] w fun e w' => ∃ (v : Value) (ss : List Nd), e = .returned v ∧ ss.Perm L ∧ w'.ownsRow w.heap.size 34 8 v ss.length (flatN ss) ∧ (v = .slice none 0 0 ↔ ss = []) ∧ Below w.heap.size w w' := by
  have h1 : 1 ≤ n := by omega
  obtain ⟨i0, hi, hz0, hz1, hz2⟩ := info_parts infoNd
  have hby := bytesNd
  refine callsIn_of_wp_marks Try.func65 rfl hf ?_ hro
  simp only [Try.ntmps65, List.size_toArray, List.length_cons, List.length_nil, Nat.reduceAdd, Nat.reduceSub, Array.replicate_succ, Array.replicate_zero, List.push_toArray, List.append_toArray, List.nil_append, List.cons_append]
  gi_wp2
  have bS := Boxed.new w 44 (.slice none 0 0)
  have hB0 : Below w.heap.size w (w.alloc (.cells #[.slice none 0 0] 44)) := (Below.refl _ w).alloc (Nat.le_refl _) _
  have hsz : (w.alloc (.cells #[.slice none 0 0] 44)).heap.size = w.heap.size + 1 := by simp
  obtain ⟨W0, hW0⟩ : ∃ W0, w.alloc (.cells #[.slice none 0 0] 44) = W0 := ⟨_, rfl⟩
  rw [hW0] at bS hB0 hsz ⊢
  clear hW0
  refine wpIn_rangeFunc_ownH hro h1 (gf := g) (lb := lb) rfl hFg eg (hseq W0 hB0) walksK_t walksK_b (Below.refl _ _) (fun _ => rfl)
    (fun pre W => (∃ v, Boxed W w.heap.size 44 v ∧ W.ownsRow w.heap.size 34 8 v pre.length (flatN pre) ∧ (v = .slice none 0 0 ↔ pre = [])) ∧ Below w.heap.size w W)
    (fun _ _ _ => False)
    (OwnFrom.and (Own.from (holdsRow_own w.heap.size w.heap.size 44 34 8 (fun pre : List Nd => pre.length) (fun pre => flatN pre) (fun pre v => v = .slice none 0 0 ↔ pre = [])) _) (ownFrom_below (Nat.le_refl _) (by omega)))
    (fun _ _ _ _ _ hs _ _ => hs)
    ⟨⟨_, bS, World.ownsRow_nil _ _ _ _, by simp⟩, hB0⟩
    (fun x a' W => ∃ Bx, w.heap.size < Bx ∧ W.heap[Bx]? = some (.cells (cellsN x).toArray 34 (0, 0)) ∧ a' = { tmps := #[.slice none 0 0, .func (.func g) #[] lb, .pointer (some ⟨w.heap.size, 0, none⟩), undef, .slice none 0 0, .pointer (some ⟨Bx, 0, none⟩), .func (.func g) #[] lb, ndV x, undef, undef, undef, undef, undef], defers := [] })
    (fun x a' _ X Y row hs hg hr => by obtain ⟨Bx, h1, h2, h3⟩ := hs; exact ⟨Bx, h1, box_node_own Bx x _ () X Y row h2 hg hr, h3⟩)
    ?assign ?body ?done ?stop
  case assign =>
    rintro l pre x W K ⟨⟨v, hv, hrow, hnil⟩, hB⟩ hK
    have hsW := hB.size
    have hlt := hv.lt
    simp only [ndV, cellsN] at hK ⊢
    gi_wp2
    exact hK _ _ ((KeepsOthers.alloc _ _).from _) (KeepsWalks.alloc _ _) ⟨⟨v, hv.alloc _, hrow.alloc _, hnil⟩, hB.alloc hsW _⟩ ⟨W.heap.size, hlt, alloc_at _ _, rfl⟩
  case body =>
    rintro l pre x a' W hl ⟨r, hr⟩ ⟨⟨v, hv, hrow, hnil⟩, hB⟩ ⟨Bx, hBx, bX, rfl⟩ hlt
    have hc := hv.cell
    have hsW := hB.size
    have X0 : W.cell? ⟨Bx, 0, none⟩ = some (.string x.name) := (blk_cell bX 0).trans rfl
    have X1 : W.cell? ⟨Bx, 1, none⟩ = some (.int .i64 x.epoch) := (blk_cell bX 1).trans rfl
    have X2 : W.cell? ⟨Bx, 2, none⟩ = some (.int .i64 x.cap.1) := (blk_cell bX 2).trans rfl
    have X3 : W.cell? ⟨Bx, 3, none⟩ = some (.int .i64 x.cap.2.1) := (blk_cell bX 3).trans rfl
    have X4 : W.cell? ⟨Bx, 4, none⟩ = some (.int .i64 x.cap.2.2.1) := (blk_cell bX 4).trans rfl
    have X5 : W.cell? ⟨Bx, 5, none⟩ = some (.int .i64 x.cap.2.2.2) := (blk_cell bX 5).trans rfl
    have X6 : W.cell? ⟨Bx, 6, none⟩ = some (.int .i64 x.seen) := (blk_cell bX 6).trans rfl
    have X7 : W.cell? ⟨Bx, 7, none⟩ = some (.bool x.live) := (blk_cell bX 7).trans rfl
    have hb1 : pre.length + 1 ≤ maxLen := by unfold maxLen; omega
    have hb2 : (pre.length + 1) * ((Try.prog.info? 34).map (·.bytes) |>.getD 0) ≤ 140737488355328 := Nat.le_trans (Nat.mul_le_mul (show pre.length + 1 ≤ 100 by omega) hby) (by omega)
    gi_wp2_with (gi_at_builtin; refine wpListIn_append_own _ rfl _ _ 44 rfl w.heap.size 34 i0 (ndV zeroN) 8 _ Try.underlying44 hi hz0 hz1 hz2 rfl (by decide) _ _ _ rfl (hrow.alloc _) ⟨W.heap.size, 0, none⟩ 1 1 (cellsN x) rfl rfl (cells_new _ _) (cellsN_one x) hb1 hb2 (by simp; omega) ?_; intro v' w1 hown' hgrow _; obtain ⟨g', cap', rfl⟩ := ownsRow_succ hown'; obtain ⟨hv1, hv2, hr2, hk2, hb2'⟩ := hv.appended (by decide) hrow hB.size (Nat.le_refl _) hown' hgrow; have hc1 := hv1.cell; have hf1 := hv1.frozen)
    exact ⟨hk2.from _, ⟨hk2.size, fun k o hk ho => hk2.same k o hk (Obj.not_cells_of_walk ho)⟩, ⟨_, hv2, by rw [flatN_append]; simpa [flatN] using hr2, by simp⟩, hB.trans hb2'⟩
  case done =>
    rintro D ys W hD hS ⟨⟨v, hv, hrow, hnil⟩, hB⟩ hK
    have hc := hv.cell
    gi_wp2
    refine ⟨by simp, .inl ⟨_, _, rfl, run_takeDeferred hK, ?_⟩⟩
    exact ⟨_, results_tmp rfl _ _ _, v, ys, rfl, hS, ownsRow_putObj hrow _ hK rfl, hnil, hB.trans (belowK_b (w := w) (Nat.le_refl _) W D _ _ (by omega) hK rfl rfl)⟩
  case stop =>
    rintro D c pre W _ _ h _
    exact h.elim
end Go.Proofs.Ytkplhobiciddoaa
