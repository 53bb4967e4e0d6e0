/- Chapter 14's queue: Head. -/
import Derived.Test.YtingeijodooocaaQuV
namespace Go.Proofs.Ytingeijodooocaa
open Go.RowKit
variable {B q nA nH c : Nat} {w w' : World} {m : Option (Nat × Nat)} {A : WMap} {Hm : HMap} {D : List UInt8 → Hd} {L : List Wt}
theorem wf_small {x : Int} (h0 : -1000000 ≤ x) (h1 : x ≤ 1000000) : (Lit.int .i64 x).wf = true := by
  simp [Lit.wf, IntKind.min, IntKind.max, IntKind.bits, IntKind.signed]
  omega
theorem QuR.lookH (h : QuR B w q m nA A nH Hm) {s : ByteArray} (hs : s.size ≤ maxLen) :
    ∀ W, Below w.heap.size w W → (Instr.lookup 52 (.map (m.map (·.2))) (.string s) false).run Try.prog W = .ok (mkH ((Hm s.data.toList).getD none)) W := by
  intro W hb
  have h2 := h.below hb
  rcases m with _ | ⟨bm, bh⟩
  · obtain ⟨-, -, -, rfl⟩ := h.off rfl
    exact Maps.look_nil false (Maps.string_keyed Try.underlying9) Try.underlying52 (zeroMh W) (WideMaps.keyOf_string_mk Try.underlying9 hs)
  · exact (h2.on bm bh rfl).2.1.look mkH_inj Try.underlying9 Try.underlying52 (zeroMh W) hs
set_option maxHeartbeats 2000000 in
theorem qhead_no (h : QuV B w q m nA A nH Hm D L c) {s : ByteArray} (hs : s.size ≤ maxLen) (hn : Hm s.data.toList = none) :
    Calls Try.prog 13 #[.pointer (some ⟨q, 0, none⟩), .string s] w fun e w' => e = .returned (.tuple #[.agg #[.int .i64 0, .string ByteArray.empty, .int .i64 0], .int .i64 3]) ∧ Below w.heap.size w w' := by
  have hl := h.r.lookH hs
  rw [hn] at hl
  have c1 := h.r.head.2
  have hlq := h.r.ltq
  clear h
  generalize m.map (·.2) = mm at *
  have hlook : ∀ o, (Instr.lookup 52 (.map mm) (.string s) false).run Try.prog (w.alloc o) = .ok (.pointer none) (w.alloc o) := fun o => hl _ ((Below.refl _ _).alloc (Nat.le_refl _) o)
  clear hl
  go_enter Try.func13, Try.ntmps13
  go_wp2
  refine ret_row2 rfl w.heap.size #[.int .i64 0, .string ⟨#[]⟩, .int .i64 0] 29 _ rfl Try.underlying29 rfl infoW rfl (by apply Exists.intro; refine ⟨?_, ?_⟩; (focus ((repeat (first | (with_reducible assumption) | (with_reducible exact alloc_at _ _) | ((with_reducible apply alloc_at'); (simp; done)) | (with_reducible apply alloc_at_lt) | (with_reducible apply heap_drew_at) | (with_reducible apply heap_drewN_at) | (with_reducible apply heap_setCell_same) | ((with_reducible apply heap_set_ne); (first | omega | (dsimp only; omega) | (simp; done) | (simp; omega))) | (with_reducible apply setRow_at) | ((with_reducible apply setRow_ne); (first | omega | (dsimp only; omega) | (simp; done) | (simp; omega))))))); simp) ⟨rfl, (by repeat (first | with_reducible assumption | with_reducible exact Below.refl _ _ | with_reducible refine Below.drew ?_ | with_reducible refine below_drewN ?_ _ | with_reducible refine below_alloc ?_ _ | with_reducible refine Below.alloc ?_ (by first | omega | (simp; done) | (simp; omega)) _ | with_reducible refine Below.setCell ?_ (by first | omega | (simp; done) | (simp; omega)) _ | with_reducible refine below_setRow ?_ (by first | omega | (simp; done) | (simp; omega)) _))⟩
set_option maxHeartbeats 4000000 in
theorem qhead_yes (h : QuV B w q m nA A nH Hm D L c) {s : ByteArray} (hs : s.size ≤ maxLen) {b : Option Nat} (hn : Hm s.data.toList = some b) {v : Wt} (hv : (lsQ s.data.toList L).head? = some v) :
    Calls Try.prog 13 #[.pointer (some ⟨q, 0, none⟩), .string s] w fun e w' => e = .returned (.tuple #[.agg #[.int .i64 v.job, .string v.ten, .int .i64 v.pri], .int .i64 0]) ∧ Below w.heap.size w w' := by
  obtain ⟨v', hA, hm, hky, hh, hk⟩ := h.first hn
  obtain rfl : v' = v := by rw [hh] at hv; injection hv
  obtain ⟨hb, hM, hl, -, h0, -⟩ := h.hp _ b hn
  subst hb
  have hjob := h.job _ _ _ hA
  have hl1 := h.r.lookH hs
  rw [hn] at hl1
  have hMin : Hid (∀ W, Below w.heap.size w W → Calls Try.prog 28 #[.pointer (some ⟨(D s.data.toList).H, 0, none⟩)] W fun e w' => e = .returned (.tuple #[.int .i64 ((D s.data.toList).S.e 0 : Nat), .agg #[.int .i64 (-v'.pri), .int .i64 v'.job, .int .i64 0], .int .i64 0]) ∧ Below W.heap.size W w') := fun W hb => by
    have := mmin_g (hM.below hb) hl h0
    rw [hk] at this
    exact this
  have hGet : Hid (∀ W, Below w.heap.size w W → Calls Try.prog 16 #[.pointer (some ⟨q, 0, none⟩), .int .i64 v'.job] W fun e w' => e = .returned (.tuple #[.agg #[.int .i64 v'.job, .string v'.ten, .int .i64 v'.pri], .int .i64 0]) ∧ Below W.heap.size W w') := fun W hb => by
    have := qget_g (h.r.below hb) v'.job (wf_small (by omega) (by omega))
    rw [hA] at this
    exact this
  have c1 := h.r.head.2
  have hlq := h.r.ltq
  generalize (D s.data.toList).S.e 0 = x at *
  generalize (D s.data.toList).H = HB at *
  clear h hM hl h0 hA hm hky hh hv hjob hk
  generalize m.map (·.2) = mm at *
  have hlook : ∀ o, (Instr.lookup 52 (.map mm) (.string s) false).run Try.prog (w.alloc o) = .ok (.pointer (some ⟨HB, 0, none⟩)) (w.alloc o) := fun o => hl1 _ ((Below.refl _ _).alloc (Nat.le_refl _) o)
  clear hl1
  go_enter Try.func13, Try.ntmps13
  go_wp2_with fail
  refine (hMin.out _ (by repeat (first | with_reducible assumption | with_reducible exact Below.refl _ _ | with_reducible refine Below.drew ?_ | with_reducible refine below_drewN ?_ _ | with_reducible refine below_alloc ?_ _ | with_reducible refine Below.alloc ?_ (by first | omega | (simp; done) | (simp; omega)) _ | with_reducible refine Below.setCell ?_ (by first | omega | (simp; done) | (simp; omega)) _ | with_reducible refine below_setRow ?_ (by first | omega | (simp; done) | (simp; omega)) _))).mono ?_
  rintro e w1 ⟨rfl, hb1⟩
  have A1 : w1.heap[w.heap.size]? = some (.cells #[.int .i64 0, .string ⟨#[]⟩, .int .i64 0] 29 (0, 0)) := (hb1.block _ (by simp)).trans (by (repeat (first | (with_reducible assumption) | (with_reducible exact alloc_at _ _) | ((with_reducible apply alloc_at'); (simp; done)) | (with_reducible apply alloc_at_lt) | (with_reducible apply heap_drew_at) | (with_reducible apply heap_drewN_at) | (with_reducible apply heap_setCell_same) | ((with_reducible apply heap_set_ne); (first | omega | (dsimp only; omega) | (simp; done) | (simp; omega))) | (with_reducible apply setRow_at) | ((with_reducible apply setRow_ne); (first | omega | (dsimp only; omega) | (simp; done) | (simp; omega))))))
  have hs1 := hb1.size
  simp only [World.size_alloc] at hs1
  have B1 : Below w.heap.size w w1 := Below.trans (by repeat (first | with_reducible assumption | with_reducible exact Below.refl _ _ | with_reducible refine Below.drew ?_ | with_reducible refine below_drewN ?_ _ | with_reducible refine below_alloc ?_ _ | with_reducible refine Below.alloc ?_ (by first | omega | (simp; done) | (simp; omega)) _ | with_reducible refine Below.setCell ?_ (by first | omega | (simp; done) | (simp; omega)) _ | with_reducible refine below_setRow ?_ (by first | omega | (simp; done) | (simp; omega)) _)) (hb1.mono (by first | omega | (simp; done) | (simp; omega)))
  have l1 := lt_of_at A1
  clear hb1
  go_wp2_with fail
  refine (hGet.out _ (by repeat (first | with_reducible assumption | with_reducible exact Below.refl _ _ | with_reducible refine Below.drew ?_ | with_reducible refine below_drewN ?_ _ | with_reducible refine below_alloc ?_ _ | with_reducible refine Below.alloc ?_ (by first | omega | (simp; done) | (simp; omega)) _ | with_reducible refine Below.setCell ?_ (by first | omega | (simp; done) | (simp; omega)) _ | with_reducible refine below_setRow ?_ (by first | omega | (simp; done) | (simp; omega)) _))).mono ?_
  rintro e w2 ⟨rfl, hb2⟩
  have A2 : w2.heap[w.heap.size]? = some (.cells #[.int .i64 0, .string ⟨#[]⟩, .int .i64 0] 29 (0, 0)) := (hb2.block _ (by simp; omega)).trans (by (repeat (first | (with_reducible assumption) | (with_reducible exact alloc_at _ _) | ((with_reducible apply alloc_at'); (simp; done)) | (with_reducible apply alloc_at_lt) | (with_reducible apply heap_drew_at) | (with_reducible apply heap_drewN_at) | (with_reducible apply heap_setCell_same) | ((with_reducible apply heap_set_ne); (first | omega | (dsimp only; omega) | (simp; done) | (simp; omega))) | (with_reducible apply setRow_at) | ((with_reducible apply setRow_ne); (first | omega | (dsimp only; omega) | (simp; done) | (simp; omega))))))
  have hs2 := hb2.size
  simp only [World.size_alloc] at hs2
  have B2 : Below w.heap.size w w2 := Below.trans (by repeat (first | with_reducible assumption | with_reducible exact Below.refl _ _ | with_reducible refine Below.drew ?_ | with_reducible refine below_drewN ?_ _ | with_reducible refine below_alloc ?_ _ | with_reducible refine Below.alloc ?_ (by first | omega | (simp; done) | (simp; omega)) _ | with_reducible refine Below.setCell ?_ (by first | omega | (simp; done) | (simp; omega)) _ | with_reducible refine below_setRow ?_ (by first | omega | (simp; done) | (simp; omega)) _)) (hb2.mono (by first | omega | (simp; done) | (simp; omega)))
  have l2 := lt_of_at A2
  have q0 : w2.cell? ⟨w.heap.size, 0, none⟩ = some (.int .i64 0) := (blk_cell A2 0).trans rfl
  have q1 : w2.cell? ⟨w.heap.size, 1, none⟩ = some (.string ⟨#[]⟩) := (blk_cell A2 1).trans rfl
  have q2 : w2.cell? ⟨w.heap.size, 2, none⟩ = some (.int .i64 0) := (blk_cell A2 2).trans rfl
  have qf := blk_free A2
  clear hb2 hGet hMin hlook A1 l1 c1
  go_wp2
  refine ret_row2 rfl w.heap.size #[.int .i64 v'.job, .string v'.ten, .int .i64 v'.pri] 29 _ rfl Try.underlying29 rfl infoW rfl (by apply Exists.intro; refine ⟨?_, ?_⟩; (focus ((repeat (first | (with_reducible assumption) | (with_reducible exact alloc_at _ _) | ((with_reducible apply alloc_at'); (simp; done)) | (with_reducible apply alloc_at_lt) | (with_reducible apply heap_drew_at) | (with_reducible apply heap_drewN_at) | (with_reducible apply heap_setCell_same) | ((with_reducible apply heap_set_ne); (first | omega | (dsimp only; omega) | (simp; done) | (simp; omega))) | (with_reducible apply setRow_at) | ((with_reducible apply setRow_ne); (first | omega | (dsimp only; omega) | (simp; done) | (simp; omega))))))); simp) ⟨rfl, (by repeat (first | with_reducible assumption | with_reducible exact Below.refl _ _ | with_reducible refine Below.drew ?_ | with_reducible refine below_drewN ?_ _ | with_reducible refine below_alloc ?_ _ | with_reducible refine Below.alloc ?_ (by first | omega | (simp; done) | (simp; omega)) _ | with_reducible refine Below.setCell ?_ (by first | omega | (simp; done) | (simp; omega)) _ | with_reducible refine below_setRow ?_ (by first | omega | (simp; done) | (simp; omega)) _))⟩
end Go.Proofs.Ytingeijodooocaa
