/- The nil ledger's Take and Give; and the walk of LedgerNil. -/
import Derived.Test.YtobgolceggeogaaLedZ
namespace Go.Proofs.Ytobgolceggeogaa
open Go.RowKit
set_option maxHeartbeats 1000000 in
theorem takez_one (b cap : Nat) (s : ByteArray) (x0 x1 x2 x3 : Int) (w : World) (hb : b < w.heap.size) (hw : w.heap[b]? = some (.cells #[.string s, .int .i64 x0, .int .i64 x1, .int .i64 x2, .int .i64 x3] 31 (0, 0))) :
    Calls Try.prog 12 #[.pointer none, .slice (some ⟨b, 0, none⟩) 1 cap] w fun e w' => e = .returned (.int .i64 (zE (x0, x1, x2, x3))) ∧ Below w.heap.size w w' := by
  have hg := gathz_one b cap s x0 x1 x2 x3 w hb hw
  have hq : zE (x0, x1, x2, x3) ≠ 0 := by unfold zE; split <;> decide
  obtain ⟨q, hqe⟩ : ∃ q, q = zE (x0, x1, x2, x3) := ⟨_, rfl⟩
  rw [← hqe] at hg hq ⊢
  clear hqe hw
  go_enter Try.func12, Try.ntmps12
  go_wp2_with fail
  refine hg.mono ?_
  rintro e w1 ⟨rfl, hb1⟩
  go_wp2
  go_ret
  exact ⟨rfl, hb1⟩
set_option maxHeartbeats 1000000 in
theorem takez_nil (Ao : Option Addr) (cap : Nat) (w : World) :
    Calls Try.prog 12 #[.pointer none, .slice Ao 0 cap] w fun e w' => e = .returned (.int .i64 0) ∧ Below w.heap.size w w' := by
  have hg := gathz_nil Ao cap w
  go_enter Try.func12, Try.ntmps12
  go_wp2_with fail
  refine hg.mono ?_
  rintro e w1 ⟨hb1, hbad, hgood⟩
  obtain ⟨sb, n', rfl, hsb, hown⟩ := hgood rfl
  have hs1 := hb1.size
  obtain ⟨w2, hrun, hr2, hg2, hs2⟩ := OwnsM.range hown Try.underlying9 Try.underlying66
  have B2 : Below w.heap.size w w2 := hb1.trans (below_grown hg2 (by omega) (fun j e => by cases e))
  have hn2 : (Instr.next (.pointer (some ⟨w1.heap.size, 0, none⟩)) false 0).run Try.prog w2 = .ok (.tuple #[.bool false]) w2 := by
    rcases RangesM.next hr2 Try.underlying9 0 with ⟨-, -, h⟩ | ⟨s, x, _, _, _, _, hS, _⟩
    · exact h
    · cases hS
  obtain ⟨w3, hrun3, hr3, hg3, hs3⟩ := OwnsM.range (RangesM.owns hr2) Try.underlying9 Try.underlying66
  have B3 : Below w.heap.size w w3 := B2.trans (below_grown hg3 B2.size (fun j e => by cases e))
  have hn3 : (Instr.next (.pointer (some ⟨w2.heap.size, 0, none⟩)) false 0).run Try.prog w3 = .ok (.tuple #[.bool false]) w3 := by
    rcases RangesM.next hr3 Try.underlying9 0 with ⟨-, -, h⟩ | ⟨s, x, _, _, _, _, hS, _⟩
    · exact h
    · cases hS
  clear hg hbad hgood hown hr2 hg2 hr3 hg3 hs2 hs3
  go_wp2
  refine wp_loop_rounds 1 ?_
  rw [rounds_succ]
  go_wp2
  refine wp_loop_rounds 1 ?_
  rw [rounds_succ]
  go_wp2
  go_ret
  exact ⟨rfl, B3⟩
set_option maxHeartbeats 1000000 in
theorem givez_one (b cap : Nat) (s : ByteArray) (x0 x1 x2 x3 : Int) (w : World) (hb : b < w.heap.size) (hw : w.heap[b]? = some (.cells #[.string s, .int .i64 x0, .int .i64 x1, .int .i64 x2, .int .i64 x3] 31 (0, 0))) :
    Calls Try.prog 21 #[.pointer none, .slice (some ⟨b, 0, none⟩) 1 cap] w fun e w' => e = .returned (.int .i64 (zE (x0, x1, x2, x3))) ∧ Below w.heap.size w w' := by
  have hg := gathz_one b cap s x0 x1 x2 x3 w hb hw
  have hq : zE (x0, x1, x2, x3) ≠ 0 := by unfold zE; split <;> decide
  obtain ⟨q, hqe⟩ : ∃ q, q = zE (x0, x1, x2, x3) := ⟨_, rfl⟩
  rw [← hqe] at hg hq ⊢
  clear hqe hw
  go_enter Try.func21, Try.ntmps21
  go_wp2_with fail
  refine hg.mono ?_
  rintro e w1 ⟨rfl, hb1⟩
  go_wp2
  go_ret
  exact ⟨rfl, hb1⟩
set_option maxHeartbeats 1000000 in
theorem givez_nil (Ao : Option Addr) (cap : Nat) (w : World) :
    Calls Try.prog 21 #[.pointer none, .slice Ao 0 cap] w fun e w' => e = .returned (.int .i64 0) ∧ Below w.heap.size w w' := by
  have hg := gathz_nil Ao cap w
  go_enter Try.func21, Try.ntmps21
  go_wp2_with fail
  refine hg.mono ?_
  rintro e w1 ⟨hb1, hbad, hgood⟩
  obtain ⟨sb, n', rfl, hsb, hown⟩ := hgood rfl
  have hs1 := hb1.size
  obtain ⟨w2, hrun, hr2, hg2, hs2⟩ := OwnsM.range hown Try.underlying9 Try.underlying66
  have B2 : Below w.heap.size w w2 := hb1.trans (below_grown hg2 (by omega) (fun j e => by cases e))
  have hn2 : (Instr.next (.pointer (some ⟨w1.heap.size, 0, none⟩)) false 0).run Try.prog w2 = .ok (.tuple #[.bool false]) w2 := by
    rcases RangesM.next hr2 Try.underlying9 0 with ⟨-, -, h⟩ | ⟨s, x, _, _, _, _, hS, _⟩
    · exact h
    · cases hS
  obtain ⟨w3, hrun3, hr3, hg3, hs3⟩ := OwnsM.range (RangesM.owns hr2) Try.underlying9 Try.underlying66
  have B3 : Below w.heap.size w w3 := B2.trans (below_grown hg3 B2.size (fun j e => by cases e))
  have hn3 : (Instr.next (.pointer (some ⟨w2.heap.size, 0, none⟩)) false 0).run Try.prog w3 = .ok (.tuple #[.bool false]) w3 := by
    rcases RangesM.next hr3 Try.underlying9 0 with ⟨-, -, h⟩ | ⟨s, x, _, _, _, _, hS, _⟩
    · exact h
    · cases hS
  clear hg hbad hgood hown hr2 hg2 hr3 hg3 hs2 hs3
  go_wp2
  refine wp_loop_rounds 1 ?_
  rw [rounds_succ]
  go_wp2
  refine wp_loop_rounds 1 ?_
  rw [rounds_succ]
  go_wp2
  go_ret
  exact ⟨rfl, B3⟩
theorem below_atW {W w' : World} (h : Below W.heap.size W w') {n : Nat} {o : Obj} (ho : W.heap[n]? = some o) : w'.heap[n]? = some o := below_at h (lt_of_at ho) ho
theorem open_new_z (B : Bool) (s : ByteArray) (v : V) (hv : okV v = B) : openE noA 0 s.data.toList v = (if B then 0 else 4) ∧ openN noA 0 s.data.toList v = (if B then 1 else 0) ∧ openA noA 0 s.data.toList v = (if B then putA noA s.data.toList (v, zeroV) else noA) := by
  cases B <;> simp [openE, openN, openA, hv, noA, zeroA]
theorem take_z_true (s : ByteArray) (v : V) (hv : okV v = true) : takeE (putA noA s.data.toList (v, zeroV)) [(s, v)] = 0 := by
  have hk : putA noA s.data.toList (v, zeroV) (nm (s, v)) = some (v, zeroV) := putA_same _ _ _
  have hg : gathE (putA noA s.data.toList (v, zeroV)) [(s, v)] = 0 := gathE_ok (by simp [okE, hv]) (by simp [hasE, hk])
  refine (takeE_all hg fun k hs => ?_).1
  have hkn : k = nm (s, v) := by
    rw [sums_key] at hs
    simp at hs
    exact hs.symm
  subst hkn
  have hs1 : (sumsOf [(s, v)]) (nm (s, v)) = some (capV zeroV v) := putA_same _ _ _
  unfold takeFits usedOf limOf
  rw [hs1, hk]
  obtain ⟨h0, h1, h2, h3⟩ := (okV_iff _).1 hv
  simp only [Option.getD_some, fitsV, fitsB, addV, zeroV, capV, cap1]
  exact decide_eq_true (by omega)
theorem take_z_false (s : ByteArray) (v : V) (hv : okV v = false) : takeE noA [(s, v)] = 4 := (takeE_form (gathE_form (by simp [okE, hv])) (by decide)).1
theorem below_allocB {B : Nat} {a w : World} (hB : B ≤ w.heap.size) (h : Below B a w) (o : Obj) : Below B a (w.alloc o) := h.alloc hB o
theorem keep_two {W0 w' : World} {B p q : Nat} {s : ByteArray} {a b c d : Int} {t t' : TypeId} (h0 : Below B W0 w') (h1 : w'.heap[p]? = some (.cells #[.int .i64 a, .int .i64 b, .int .i64 c, .int .i64 d] t (0, 0))) (h2 : w'.heap[q]? = some (.cells #[.string s, .int .i64 a, .int .i64 b, .int .i64 c, .int .i64 d] t' (0, 0))) :
    Below B W0 w' ∧ w'.heap[p]? = some (.cells #[.int .i64 a, .int .i64 b, .int .i64 c, .int .i64 d] t (0, 0)) ∧ w'.heap[q]? = some (.cells #[.string s, .int .i64 a, .int .i64 b, .int .i64 c, .int .i64 d] t' (0, 0)) ∧
      w'.cell? ⟨p, 0, none⟩ = some (.int .i64 a) ∧ w'.cell? ⟨p, 1, none⟩ = some (.int .i64 b) ∧ w'.cell? ⟨p, 2, none⟩ = some (.int .i64 c) ∧ w'.cell? ⟨p, 3, none⟩ = some (.int .i64 d) ∧
      w'.cell? ⟨q, 0, none⟩ = some (.string s) ∧ w'.cell? ⟨q, 1, none⟩ = some (.int .i64 a) ∧ w'.cell? ⟨q, 2, none⟩ = some (.int .i64 b) ∧ w'.cell? ⟨q, 3, none⟩ = some (.int .i64 c) ∧ w'.cell? ⟨q, 4, none⟩ = some (.int .i64 d) :=
  ⟨h0, h1, h2, (blk_cell h1 0).trans rfl, (blk_cell h1 1).trans rfl, (blk_cell h1 2).trans rfl, (blk_cell h1 3).trans rfl, (blk_cell h2 0).trans rfl, (blk_cell h2 1).trans rfl, (blk_cell h2 2).trans rfl, (blk_cell h2 3).trans rfl, (blk_cell h2 4).trans rfl⟩
set_option maxRecDepth 20000 in
set_option maxHeartbeats 4000000 in
theorem ledgerNil_true (s : ByteArray) (a b c d : Int) (w : World) (hs : s.size ≤ maxLen) (hv : okV (a, b, c, d) = true) :
    Calls Try.prog 8 #[.string s, .agg #[.int .i64 a, .int .i64 b, .int .i64 c, .int .i64 d]] w fun e w' => e = .returned (.bool true) ∧ Below w.heap.size w w' := by
  have HS := hid hs
  clear hs
  have hF : ∀ W, Calls Try.prog 22 #[.agg #[.int .i64 a, .int .i64 b, .int .i64 c, .int .i64 d]] W fun e w' => e = .returned (.bool true) ∧ Below W.heap.size W w' := fun W => by have h := rformed_any a b c d W; rw [show formedB a b c d = true from hv] at h; exact h
  have hz : zE (a, b, c, d) = 3 := by simp [zE, hv]
  go_enter Try.func8, Try.ntmps8
  go_wp2_with fail
  refine (awake_any _).mono ?_
  rintro e w1 ⟨rfl, hb1⟩
  have hs1 := hb1.size
  try simp only [World.size_alloc, World.size_setCell] at hs1
  have V_1 : w1.heap[w.heap.size]? = some (.cells #[.int .i64 a, .int .i64 b, .int .i64 c, .int .i64 d] 29 (0, 0)) := below_at hb1 (by first | omega | (simp; done) | (simp; omega)) (by (repeat (first | (with_reducible assumption) | (with_reducible exact alloc_at _ _) | ((with_reducible apply alloc_at'); (simp; done)) | (with_reducible apply alloc_at_lt) | (with_reducible apply heap_drew_at) | (with_reducible apply heap_drewN_at) | (with_reducible apply heap_setCell_same) | ((with_reducible apply heap_set_ne); (first | omega | (dsimp only; omega) | (simp; done) | (simp; omega))) | (with_reducible apply setRow_at) | ((with_reducible apply setRow_ne); (first | omega | (dsimp only; omega) | (simp; done) | (simp; omega))))))
  have B1 : Below w.heap.size w w1 := Below.trans (by repeat (first | with_reducible assumption | with_reducible exact Below.refl _ _ | with_reducible refine Below.drew ?_ | with_reducible refine below_drewN ?_ _ | with_reducible refine below_alloc ?_ _ | with_reducible refine Below.alloc ?_ (by first | omega | (simp; done) | (simp; omega)) _ | with_reducible refine Below.setCell ?_ (by first | omega | (simp; done) | (simp; omega)) _ | with_reducible refine below_setRow ?_ (by first | omega | (simp; done) | (simp; omega)) _)) (hb1.mono (by first | omega | (simp; done) | (simp; omega)))
  clear hb1
  have Vc0 : w1.cell? ⟨w.heap.size, 0, none⟩ = some (.int .i64 a) := (blk_cell V_1 0).trans rfl
  have Vc1 : w1.cell? ⟨w.heap.size, 1, none⟩ = some (.int .i64 b) := (blk_cell V_1 1).trans rfl
  have Vc2 : w1.cell? ⟨w.heap.size, 2, none⟩ = some (.int .i64 c) := (blk_cell V_1 2).trans rfl
  have Vc3 : w1.cell? ⟨w.heap.size, 3, none⟩ = some (.int .i64 d) := (blk_cell V_1 3).trans rfl
  have Vcf := blk_free V_1
  have Vl1 : w.heap.size < w1.heap.size := by omega
  go_wp2_with fail
  refine (usedz s _).mono ?_
  rintro e w2 ⟨rfl, hb2⟩
  have hs2 := hb2.size
  try simp only [World.size_alloc, World.size_setCell] at hs2
  have V_2 : w2.heap[w.heap.size]? = some (.cells #[.int .i64 a, .int .i64 b, .int .i64 c, .int .i64 d] 29 (0, 0)) := below_at hb2 (by first | omega | (simp; done) | (simp; omega)) (by (repeat (first | (with_reducible assumption) | (with_reducible exact alloc_at _ _) | ((with_reducible apply alloc_at'); (simp; done)) | (with_reducible apply alloc_at_lt) | (with_reducible apply heap_drew_at) | (with_reducible apply heap_drewN_at) | (with_reducible apply heap_setCell_same) | ((with_reducible apply heap_set_ne); (first | omega | (dsimp only; omega) | (simp; done) | (simp; omega))) | (with_reducible apply setRow_at) | ((with_reducible apply setRow_ne); (first | omega | (dsimp only; omega) | (simp; done) | (simp; omega))))))
  have X_2 : w2.heap[w1.heap.size]? = some (.cells #[.string s, .int .i64 a, .int .i64 b, .int .i64 c, .int .i64 d] 31 (0, 0)) := below_at hb2 (by first | omega | (simp; done) | (simp; omega)) (by (repeat (first | (with_reducible assumption) | (with_reducible exact alloc_at _ _) | ((with_reducible apply alloc_at'); (simp; done)) | (with_reducible apply alloc_at_lt) | (with_reducible apply heap_drew_at) | (with_reducible apply heap_drewN_at) | (with_reducible apply heap_setCell_same) | ((with_reducible apply heap_set_ne); (first | omega | (dsimp only; omega) | (simp; done) | (simp; omega))) | (with_reducible apply setRow_at) | ((with_reducible apply setRow_ne); (first | omega | (dsimp only; omega) | (simp; done) | (simp; omega))))))
  have B2 : Below w.heap.size w w2 := Below.trans (by repeat (first | with_reducible assumption | with_reducible exact Below.refl _ _ | with_reducible refine Below.drew ?_ | with_reducible refine below_drewN ?_ _ | with_reducible refine below_alloc ?_ _ | with_reducible refine Below.alloc ?_ (by first | omega | (simp; done) | (simp; omega)) _ | with_reducible refine Below.setCell ?_ (by first | omega | (simp; done) | (simp; omega)) _ | with_reducible refine below_setRow ?_ (by first | omega | (simp; done) | (simp; omega)) _)) (hb2.mono (by first | omega | (simp; done) | (simp; omega)))
  clear hb2 V_1
  clear Vc0 Vc1 Vc2 Vc3 Vcf
  have Vc0 : w2.cell? ⟨w.heap.size, 0, none⟩ = some (.int .i64 a) := (blk_cell V_2 0).trans rfl
  have Vc1 : w2.cell? ⟨w.heap.size, 1, none⟩ = some (.int .i64 b) := (blk_cell V_2 1).trans rfl
  have Vc2 : w2.cell? ⟨w.heap.size, 2, none⟩ = some (.int .i64 c) := (blk_cell V_2 2).trans rfl
  have Vc3 : w2.cell? ⟨w.heap.size, 3, none⟩ = some (.int .i64 d) := (blk_cell V_2 3).trans rfl
  have Vcf := blk_free V_2
  have Xc0 : w2.cell? ⟨w1.heap.size, 0, none⟩ = some (.string s) := (blk_cell X_2 0).trans rfl
  have Xc1 : w2.cell? ⟨w1.heap.size, 1, none⟩ = some (.int .i64 a) := (blk_cell X_2 1).trans rfl
  have Xc2 : w2.cell? ⟨w1.heap.size, 2, none⟩ = some (.int .i64 b) := (blk_cell X_2 2).trans rfl
  have Xc3 : w2.cell? ⟨w1.heap.size, 3, none⟩ = some (.int .i64 c) := (blk_cell X_2 3).trans rfl
  have Xc4 : w2.cell? ⟨w1.heap.size, 4, none⟩ = some (.int .i64 d) := (blk_cell X_2 4).trans rfl
  have Xcf := blk_free X_2
  have Vl2 : w.heap.size < w2.heap.size := by omega
  have Xl2 : w1.heap.size < w2.heap.size := by omega
  go_wp2_with fail
  refine (leftz s _).mono ?_
  rintro e w3 ⟨rfl, hb3⟩
  have hs3 := hb3.size
  try simp only [World.size_alloc, World.size_setCell] at hs3
  have V_3 : w3.heap[w.heap.size]? = some (.cells #[.int .i64 a, .int .i64 b, .int .i64 c, .int .i64 d] 29 (0, 0)) := below_at hb3 (by first | omega | (simp; done) | (simp; omega)) (by (repeat (first | (with_reducible assumption) | (with_reducible exact alloc_at _ _) | ((with_reducible apply alloc_at'); (simp; done)) | (with_reducible apply alloc_at_lt) | (with_reducible apply heap_drew_at) | (with_reducible apply heap_drewN_at) | (with_reducible apply heap_setCell_same) | ((with_reducible apply heap_set_ne); (first | omega | (dsimp only; omega) | (simp; done) | (simp; omega))) | (with_reducible apply setRow_at) | ((with_reducible apply setRow_ne); (first | omega | (dsimp only; omega) | (simp; done) | (simp; omega))))))
  have X_3 : w3.heap[w1.heap.size]? = some (.cells #[.string s, .int .i64 a, .int .i64 b, .int .i64 c, .int .i64 d] 31 (0, 0)) := below_at hb3 (by first | omega | (simp; done) | (simp; omega)) (by (repeat (first | (with_reducible assumption) | (with_reducible exact alloc_at _ _) | ((with_reducible apply alloc_at'); (simp; done)) | (with_reducible apply alloc_at_lt) | (with_reducible apply heap_drew_at) | (with_reducible apply heap_drewN_at) | (with_reducible apply heap_setCell_same) | ((with_reducible apply heap_set_ne); (first | omega | (dsimp only; omega) | (simp; done) | (simp; omega))) | (with_reducible apply setRow_at) | ((with_reducible apply setRow_ne); (first | omega | (dsimp only; omega) | (simp; done) | (simp; omega))))))
  have B3 : Below w.heap.size w w3 := Below.trans (by repeat (first | with_reducible assumption | with_reducible exact Below.refl _ _ | with_reducible refine Below.drew ?_ | with_reducible refine below_drewN ?_ _ | with_reducible refine below_alloc ?_ _ | with_reducible refine Below.alloc ?_ (by first | omega | (simp; done) | (simp; omega)) _ | with_reducible refine Below.setCell ?_ (by first | omega | (simp; done) | (simp; omega)) _ | with_reducible refine below_setRow ?_ (by first | omega | (simp; done) | (simp; omega)) _)) (hb3.mono (by first | omega | (simp; done) | (simp; omega)))
  clear hb3 V_2 X_2
  clear Vc0 Vc1 Vc2 Vc3 Vcf
  clear Xc0 Xc1 Xc2 Xc3 Xc4 Xcf
  have Vc0 : w3.cell? ⟨w.heap.size, 0, none⟩ = some (.int .i64 a) := (blk_cell V_3 0).trans rfl
  have Vc1 : w3.cell? ⟨w.heap.size, 1, none⟩ = some (.int .i64 b) := (blk_cell V_3 1).trans rfl
  have Vc2 : w3.cell? ⟨w.heap.size, 2, none⟩ = some (.int .i64 c) := (blk_cell V_3 2).trans rfl
  have Vc3 : w3.cell? ⟨w.heap.size, 3, none⟩ = some (.int .i64 d) := (blk_cell V_3 3).trans rfl
  have Vcf := blk_free V_3
  have Xc0 : w3.cell? ⟨w1.heap.size, 0, none⟩ = some (.string s) := (blk_cell X_3 0).trans rfl
  have Xc1 : w3.cell? ⟨w1.heap.size, 1, none⟩ = some (.int .i64 a) := (blk_cell X_3 1).trans rfl
  have Xc2 : w3.cell? ⟨w1.heap.size, 2, none⟩ = some (.int .i64 b) := (blk_cell X_3 2).trans rfl
  have Xc3 : w3.cell? ⟨w1.heap.size, 3, none⟩ = some (.int .i64 c) := (blk_cell X_3 3).trans rfl
  have Xc4 : w3.cell? ⟨w1.heap.size, 4, none⟩ = some (.int .i64 d) := (blk_cell X_3 4).trans rfl
  have Xcf := blk_free X_3
  have Vl3 : w.heap.size < w3.heap.size := by omega
  have Xl3 : w1.heap.size < w3.heap.size := by omega
  go_wp2_with fail
  refine (hF _).mono ?_
  rintro e w4 ⟨rfl, hb4⟩
  have hs4 := hb4.size
  try simp only [World.size_alloc, World.size_setCell] at hs4
  have V_4 : w4.heap[w.heap.size]? = some (.cells #[.int .i64 a, .int .i64 b, .int .i64 c, .int .i64 d] 29 (0, 0)) := below_at hb4 (by first | omega | (simp; done) | (simp; omega)) (by (repeat (first | (with_reducible assumption) | (with_reducible exact alloc_at _ _) | ((with_reducible apply alloc_at'); (simp; done)) | (with_reducible apply alloc_at_lt) | (with_reducible apply heap_drew_at) | (with_reducible apply heap_drewN_at) | (with_reducible apply heap_setCell_same) | ((with_reducible apply heap_set_ne); (first | omega | (dsimp only; omega) | (simp; done) | (simp; omega))) | (with_reducible apply setRow_at) | ((with_reducible apply setRow_ne); (first | omega | (dsimp only; omega) | (simp; done) | (simp; omega))))))
  have X_4 : w4.heap[w1.heap.size]? = some (.cells #[.string s, .int .i64 a, .int .i64 b, .int .i64 c, .int .i64 d] 31 (0, 0)) := below_at hb4 (by first | omega | (simp; done) | (simp; omega)) (by (repeat (first | (with_reducible assumption) | (with_reducible exact alloc_at _ _) | ((with_reducible apply alloc_at'); (simp; done)) | (with_reducible apply alloc_at_lt) | (with_reducible apply heap_drew_at) | (with_reducible apply heap_drewN_at) | (with_reducible apply heap_setCell_same) | ((with_reducible apply heap_set_ne); (first | omega | (dsimp only; omega) | (simp; done) | (simp; omega))) | (with_reducible apply setRow_at) | ((with_reducible apply setRow_ne); (first | omega | (dsimp only; omega) | (simp; done) | (simp; omega))))))
  have B4 : Below w.heap.size w w4 := Below.trans (by repeat (first | with_reducible assumption | with_reducible exact Below.refl _ _ | with_reducible refine Below.drew ?_ | with_reducible refine below_drewN ?_ _ | with_reducible refine below_alloc ?_ _ | with_reducible refine Below.alloc ?_ (by first | omega | (simp; done) | (simp; omega)) _ | with_reducible refine Below.setCell ?_ (by first | omega | (simp; done) | (simp; omega)) _ | with_reducible refine below_setRow ?_ (by first | omega | (simp; done) | (simp; omega)) _)) (hb4.mono (by first | omega | (simp; done) | (simp; omega)))
  clear hb4 V_3 X_3
  clear Vc0 Vc1 Vc2 Vc3 Vcf
  clear Xc0 Xc1 Xc2 Xc3 Xc4 Xcf
  have Vc0 : w4.cell? ⟨w.heap.size, 0, none⟩ = some (.int .i64 a) := (blk_cell V_4 0).trans rfl
  have Vc1 : w4.cell? ⟨w.heap.size, 1, none⟩ = some (.int .i64 b) := (blk_cell V_4 1).trans rfl
  have Vc2 : w4.cell? ⟨w.heap.size, 2, none⟩ = some (.int .i64 c) := (blk_cell V_4 2).trans rfl
  have Vc3 : w4.cell? ⟨w.heap.size, 3, none⟩ = some (.int .i64 d) := (blk_cell V_4 3).trans rfl
  have Vcf := blk_free V_4
  have Xc0 : w4.cell? ⟨w1.heap.size, 0, none⟩ = some (.string s) := (blk_cell X_4 0).trans rfl
  have Xc1 : w4.cell? ⟨w1.heap.size, 1, none⟩ = some (.int .i64 a) := (blk_cell X_4 1).trans rfl
  have Xc2 : w4.cell? ⟨w1.heap.size, 2, none⟩ = some (.int .i64 b) := (blk_cell X_4 2).trans rfl
  have Xc3 : w4.cell? ⟨w1.heap.size, 3, none⟩ = some (.int .i64 c) := (blk_cell X_4 3).trans rfl
  have Xc4 : w4.cell? ⟨w1.heap.size, 4, none⟩ = some (.int .i64 d) := (blk_cell X_4 4).trans rfl
  have Xcf := blk_free X_4
  have Vl4 : w.heap.size < w4.heap.size := by omega
  have Xl4 : w1.heap.size < w4.heap.size := by omega
  go_wp2_with fail
  refine (openz s a b c d _).mono ?_
  rintro e w5 ⟨rfl, hb5⟩
  have hs5 := hb5.size
  try simp only [World.size_alloc, World.size_setCell] at hs5
  have V_5 : w5.heap[w.heap.size]? = some (.cells #[.int .i64 a, .int .i64 b, .int .i64 c, .int .i64 d] 29 (0, 0)) := below_at hb5 (by first | omega | (simp; done) | (simp; omega)) (by (repeat (first | (with_reducible assumption) | (with_reducible exact alloc_at _ _) | ((with_reducible apply alloc_at'); (simp; done)) | (with_reducible apply alloc_at_lt) | (with_reducible apply heap_drew_at) | (with_reducible apply heap_drewN_at) | (with_reducible apply heap_setCell_same) | ((with_reducible apply heap_set_ne); (first | omega | (dsimp only; omega) | (simp; done) | (simp; omega))) | (with_reducible apply setRow_at) | ((with_reducible apply setRow_ne); (first | omega | (dsimp only; omega) | (simp; done) | (simp; omega))))))
  have X_5 : w5.heap[w1.heap.size]? = some (.cells #[.string s, .int .i64 a, .int .i64 b, .int .i64 c, .int .i64 d] 31 (0, 0)) := below_at hb5 (by first | omega | (simp; done) | (simp; omega)) (by (repeat (first | (with_reducible assumption) | (with_reducible exact alloc_at _ _) | ((with_reducible apply alloc_at'); (simp; done)) | (with_reducible apply alloc_at_lt) | (with_reducible apply heap_drew_at) | (with_reducible apply heap_drewN_at) | (with_reducible apply heap_setCell_same) | ((with_reducible apply heap_set_ne); (first | omega | (dsimp only; omega) | (simp; done) | (simp; omega))) | (with_reducible apply setRow_at) | ((with_reducible apply setRow_ne); (first | omega | (dsimp only; omega) | (simp; done) | (simp; omega))))))
  have B5 : Below w.heap.size w w5 := Below.trans (by repeat (first | with_reducible assumption | with_reducible exact Below.refl _ _ | with_reducible refine Below.drew ?_ | with_reducible refine below_drewN ?_ _ | with_reducible refine below_alloc ?_ _ | with_reducible refine Below.alloc ?_ (by first | omega | (simp; done) | (simp; omega)) _ | with_reducible refine Below.setCell ?_ (by first | omega | (simp; done) | (simp; omega)) _ | with_reducible refine below_setRow ?_ (by first | omega | (simp; done) | (simp; omega)) _)) (hb5.mono (by first | omega | (simp; done) | (simp; omega)))
  clear hb5 V_4 X_4
  clear Vc0 Vc1 Vc2 Vc3 Vcf
  clear Xc0 Xc1 Xc2 Xc3 Xc4 Xcf
  have Vc0 : w5.cell? ⟨w.heap.size, 0, none⟩ = some (.int .i64 a) := (blk_cell V_5 0).trans rfl
  have Vc1 : w5.cell? ⟨w.heap.size, 1, none⟩ = some (.int .i64 b) := (blk_cell V_5 1).trans rfl
  have Vc2 : w5.cell? ⟨w.heap.size, 2, none⟩ = some (.int .i64 c) := (blk_cell V_5 2).trans rfl
  have Vc3 : w5.cell? ⟨w.heap.size, 3, none⟩ = some (.int .i64 d) := (blk_cell V_5 3).trans rfl
  have Vcf := blk_free V_5
  have Xc0 : w5.cell? ⟨w1.heap.size, 0, none⟩ = some (.string s) := (blk_cell X_5 0).trans rfl
  have Xc1 : w5.cell? ⟨w1.heap.size, 1, none⟩ = some (.int .i64 a) := (blk_cell X_5 1).trans rfl
  have Xc2 : w5.cell? ⟨w1.heap.size, 2, none⟩ = some (.int .i64 b) := (blk_cell X_5 2).trans rfl
  have Xc3 : w5.cell? ⟨w1.heap.size, 3, none⟩ = some (.int .i64 c) := (blk_cell X_5 3).trans rfl
  have Xc4 : w5.cell? ⟨w1.heap.size, 4, none⟩ = some (.int .i64 d) := (blk_cell X_5 4).trans rfl
  have Xcf := blk_free X_5
  have Vl5 : w.heap.size < w5.heap.size := by omega
  have Xl5 : w1.heap.size < w5.heap.size := by omega
  go_wp2_with fail
  refine (closez s _).mono ?_
  rintro e w6 ⟨rfl, hb6⟩
  have hs6 := hb6.size
  try simp only [World.size_alloc, World.size_setCell] at hs6
  have V_6 : w6.heap[w.heap.size]? = some (.cells #[.int .i64 a, .int .i64 b, .int .i64 c, .int .i64 d] 29 (0, 0)) := below_at hb6 (by first | omega | (simp; done) | (simp; omega)) (by (repeat (first | (with_reducible assumption) | (with_reducible exact alloc_at _ _) | ((with_reducible apply alloc_at'); (simp; done)) | (with_reducible apply alloc_at_lt) | (with_reducible apply heap_drew_at) | (with_reducible apply heap_drewN_at) | (with_reducible apply heap_setCell_same) | ((with_reducible apply heap_set_ne); (first | omega | (dsimp only; omega) | (simp; done) | (simp; omega))) | (with_reducible apply setRow_at) | ((with_reducible apply setRow_ne); (first | omega | (dsimp only; omega) | (simp; done) | (simp; omega))))))
  have X_6 : w6.heap[w1.heap.size]? = some (.cells #[.string s, .int .i64 a, .int .i64 b, .int .i64 c, .int .i64 d] 31 (0, 0)) := below_at hb6 (by first | omega | (simp; done) | (simp; omega)) (by (repeat (first | (with_reducible assumption) | (with_reducible exact alloc_at _ _) | ((with_reducible apply alloc_at'); (simp; done)) | (with_reducible apply alloc_at_lt) | (with_reducible apply heap_drew_at) | (with_reducible apply heap_drewN_at) | (with_reducible apply heap_setCell_same) | ((with_reducible apply heap_set_ne); (first | omega | (dsimp only; omega) | (simp; done) | (simp; omega))) | (with_reducible apply setRow_at) | ((with_reducible apply setRow_ne); (first | omega | (dsimp only; omega) | (simp; done) | (simp; omega))))))
  have B6 : Below w.heap.size w w6 := Below.trans (by repeat (first | with_reducible assumption | with_reducible exact Below.refl _ _ | with_reducible refine Below.drew ?_ | with_reducible refine below_drewN ?_ _ | with_reducible refine below_alloc ?_ _ | with_reducible refine Below.alloc ?_ (by first | omega | (simp; done) | (simp; omega)) _ | with_reducible refine Below.setCell ?_ (by first | omega | (simp; done) | (simp; omega)) _ | with_reducible refine below_setRow ?_ (by first | omega | (simp; done) | (simp; omega)) _)) (hb6.mono (by first | omega | (simp; done) | (simp; omega)))
  clear hb6 V_5 X_5
  clear Vc0 Vc1 Vc2 Vc3 Vcf
  clear Xc0 Xc1 Xc2 Xc3 Xc4 Xcf
  have Vc0 : w6.cell? ⟨w.heap.size, 0, none⟩ = some (.int .i64 a) := (blk_cell V_6 0).trans rfl
  have Vc1 : w6.cell? ⟨w.heap.size, 1, none⟩ = some (.int .i64 b) := (blk_cell V_6 1).trans rfl
  have Vc2 : w6.cell? ⟨w.heap.size, 2, none⟩ = some (.int .i64 c) := (blk_cell V_6 2).trans rfl
  have Vc3 : w6.cell? ⟨w.heap.size, 3, none⟩ = some (.int .i64 d) := (blk_cell V_6 3).trans rfl
  have Vcf := blk_free V_6
  have Xc0 : w6.cell? ⟨w1.heap.size, 0, none⟩ = some (.string s) := (blk_cell X_6 0).trans rfl
  have Xc1 : w6.cell? ⟨w1.heap.size, 1, none⟩ = some (.int .i64 a) := (blk_cell X_6 1).trans rfl
  have Xc2 : w6.cell? ⟨w1.heap.size, 2, none⟩ = some (.int .i64 b) := (blk_cell X_6 2).trans rfl
  have Xc3 : w6.cell? ⟨w1.heap.size, 3, none⟩ = some (.int .i64 c) := (blk_cell X_6 3).trans rfl
  have Xc4 : w6.cell? ⟨w1.heap.size, 4, none⟩ = some (.int .i64 d) := (blk_cell X_6 4).trans rfl
  have Xcf := blk_free X_6
  have Vl6 : w.heap.size < w6.heap.size := by omega
  have Xl6 : w1.heap.size < w6.heap.size := by omega
  go_wp2_with fail
  refine (takez_one _ _ s a b c d _ (by simp) (alloc_at _ _)).mono ?_
  rintro e w7 ⟨rfl, hb7⟩
  have hs7 := hb7.size
  try simp only [World.size_alloc, World.size_setCell] at hs7
  have V_7 : w7.heap[w.heap.size]? = some (.cells #[.int .i64 a, .int .i64 b, .int .i64 c, .int .i64 d] 29 (0, 0)) := below_at hb7 (by first | omega | (simp; done) | (simp; omega)) (by (repeat (first | (with_reducible assumption) | (with_reducible exact alloc_at _ _) | ((with_reducible apply alloc_at'); (simp; done)) | (with_reducible apply alloc_at_lt) | (with_reducible apply heap_drew_at) | (with_reducible apply heap_drewN_at) | (with_reducible apply heap_setCell_same) | ((with_reducible apply heap_set_ne); (first | omega | (dsimp only; omega) | (simp; done) | (simp; omega))) | (with_reducible apply setRow_at) | ((with_reducible apply setRow_ne); (first | omega | (dsimp only; omega) | (simp; done) | (simp; omega))))))
  have X_7 : w7.heap[w1.heap.size]? = some (.cells #[.string s, .int .i64 a, .int .i64 b, .int .i64 c, .int .i64 d] 31 (0, 0)) := below_at hb7 (by first | omega | (simp; done) | (simp; omega)) (by (repeat (first | (with_reducible assumption) | (with_reducible exact alloc_at _ _) | ((with_reducible apply alloc_at'); (simp; done)) | (with_reducible apply alloc_at_lt) | (with_reducible apply heap_drew_at) | (with_reducible apply heap_drewN_at) | (with_reducible apply heap_setCell_same) | ((with_reducible apply heap_set_ne); (first | omega | (dsimp only; omega) | (simp; done) | (simp; omega))) | (with_reducible apply setRow_at) | ((with_reducible apply setRow_ne); (first | omega | (dsimp only; omega) | (simp; done) | (simp; omega))))))
  have B7 : Below w.heap.size w w7 := Below.trans (by repeat (first | with_reducible assumption | with_reducible exact Below.refl _ _ | with_reducible refine Below.drew ?_ | with_reducible refine below_drewN ?_ _ | with_reducible refine below_alloc ?_ _ | with_reducible refine Below.alloc ?_ (by first | omega | (simp; done) | (simp; omega)) _ | with_reducible refine Below.setCell ?_ (by first | omega | (simp; done) | (simp; omega)) _ | with_reducible refine below_setRow ?_ (by first | omega | (simp; done) | (simp; omega)) _)) (hb7.mono (by first | omega | (simp; done) | (simp; omega)))
  clear hb7 V_6 X_6
  clear Vc0 Vc1 Vc2 Vc3 Vcf
  clear Xc0 Xc1 Xc2 Xc3 Xc4 Xcf
  have Vc0 : w7.cell? ⟨w.heap.size, 0, none⟩ = some (.int .i64 a) := (blk_cell V_7 0).trans rfl
  have Vc1 : w7.cell? ⟨w.heap.size, 1, none⟩ = some (.int .i64 b) := (blk_cell V_7 1).trans rfl
  have Vc2 : w7.cell? ⟨w.heap.size, 2, none⟩ = some (.int .i64 c) := (blk_cell V_7 2).trans rfl
  have Vc3 : w7.cell? ⟨w.heap.size, 3, none⟩ = some (.int .i64 d) := (blk_cell V_7 3).trans rfl
  have Vcf := blk_free V_7
  have Xc0 : w7.cell? ⟨w1.heap.size, 0, none⟩ = some (.string s) := (blk_cell X_7 0).trans rfl
  have Xc1 : w7.cell? ⟨w1.heap.size, 1, none⟩ = some (.int .i64 a) := (blk_cell X_7 1).trans rfl
  have Xc2 : w7.cell? ⟨w1.heap.size, 2, none⟩ = some (.int .i64 b) := (blk_cell X_7 2).trans rfl
  have Xc3 : w7.cell? ⟨w1.heap.size, 3, none⟩ = some (.int .i64 c) := (blk_cell X_7 3).trans rfl
  have Xc4 : w7.cell? ⟨w1.heap.size, 4, none⟩ = some (.int .i64 d) := (blk_cell X_7 4).trans rfl
  have Xcf := blk_free X_7
  have Vl7 : w.heap.size < w7.heap.size := by omega
  have Xl7 : w1.heap.size < w7.heap.size := by omega
  rw [hz]
  go_wp2_with fail
  refine (givez_one _ _ s a b c d _ (by simp) (alloc_at _ _)).mono ?_
  rintro e w8 ⟨rfl, hb8⟩
  have hs8 := hb8.size
  try simp only [World.size_alloc, World.size_setCell] at hs8
  have V_8 : w8.heap[w.heap.size]? = some (.cells #[.int .i64 a, .int .i64 b, .int .i64 c, .int .i64 d] 29 (0, 0)) := below_at hb8 (by first | omega | (simp; done) | (simp; omega)) (by (repeat (first | (with_reducible assumption) | (with_reducible exact alloc_at _ _) | ((with_reducible apply alloc_at'); (simp; done)) | (with_reducible apply alloc_at_lt) | (with_reducible apply heap_drew_at) | (with_reducible apply heap_drewN_at) | (with_reducible apply heap_setCell_same) | ((with_reducible apply heap_set_ne); (first | omega | (dsimp only; omega) | (simp; done) | (simp; omega))) | (with_reducible apply setRow_at) | ((with_reducible apply setRow_ne); (first | omega | (dsimp only; omega) | (simp; done) | (simp; omega))))))
  have X_8 : w8.heap[w1.heap.size]? = some (.cells #[.string s, .int .i64 a, .int .i64 b, .int .i64 c, .int .i64 d] 31 (0, 0)) := below_at hb8 (by first | omega | (simp; done) | (simp; omega)) (by (repeat (first | (with_reducible assumption) | (with_reducible exact alloc_at _ _) | ((with_reducible apply alloc_at'); (simp; done)) | (with_reducible apply alloc_at_lt) | (with_reducible apply heap_drew_at) | (with_reducible apply heap_drewN_at) | (with_reducible apply heap_setCell_same) | ((with_reducible apply heap_set_ne); (first | omega | (dsimp only; omega) | (simp; done) | (simp; omega))) | (with_reducible apply setRow_at) | ((with_reducible apply setRow_ne); (first | omega | (dsimp only; omega) | (simp; done) | (simp; omega))))))
  have B8 : Below w.heap.size w w8 := Below.trans (by repeat (first | with_reducible assumption | with_reducible exact Below.refl _ _ | with_reducible refine Below.drew ?_ | with_reducible refine below_drewN ?_ _ | with_reducible refine below_alloc ?_ _ | with_reducible refine Below.alloc ?_ (by first | omega | (simp; done) | (simp; omega)) _ | with_reducible refine Below.setCell ?_ (by first | omega | (simp; done) | (simp; omega)) _ | with_reducible refine below_setRow ?_ (by first | omega | (simp; done) | (simp; omega)) _)) (hb8.mono (by first | omega | (simp; done) | (simp; omega)))
  clear hb8 V_7 X_7
  clear Vc0 Vc1 Vc2 Vc3 Vcf
  clear Xc0 Xc1 Xc2 Xc3 Xc4 Xcf
  have Vc0 : w8.cell? ⟨w.heap.size, 0, none⟩ = some (.int .i64 a) := (blk_cell V_8 0).trans rfl
  have Vc1 : w8.cell? ⟨w.heap.size, 1, none⟩ = some (.int .i64 b) := (blk_cell V_8 1).trans rfl
  have Vc2 : w8.cell? ⟨w.heap.size, 2, none⟩ = some (.int .i64 c) := (blk_cell V_8 2).trans rfl
  have Vc3 : w8.cell? ⟨w.heap.size, 3, none⟩ = some (.int .i64 d) := (blk_cell V_8 3).trans rfl
  have Vcf := blk_free V_8
  have Xc0 : w8.cell? ⟨w1.heap.size, 0, none⟩ = some (.string s) := (blk_cell X_8 0).trans rfl
  have Xc1 : w8.cell? ⟨w1.heap.size, 1, none⟩ = some (.int .i64 a) := (blk_cell X_8 1).trans rfl
  have Xc2 : w8.cell? ⟨w1.heap.size, 2, none⟩ = some (.int .i64 b) := (blk_cell X_8 2).trans rfl
  have Xc3 : w8.cell? ⟨w1.heap.size, 3, none⟩ = some (.int .i64 c) := (blk_cell X_8 3).trans rfl
  have Xc4 : w8.cell? ⟨w1.heap.size, 4, none⟩ = some (.int .i64 d) := (blk_cell X_8 4).trans rfl
  have Xcf := blk_free X_8
  have Vl8 : w.heap.size < w8.heap.size := by omega
  have Xl8 : w1.heap.size < w8.heap.size := by omega
  rw [hz]
  go_wp2_with fail
  refine (takez_nil none 0 _).mono ?_
  rintro e w9 ⟨rfl, hb9⟩
  have hs9 := hb9.size
  try simp only [World.size_alloc, World.size_setCell] at hs9
  have V_9 : w9.heap[w.heap.size]? = some (.cells #[.int .i64 a, .int .i64 b, .int .i64 c, .int .i64 d] 29 (0, 0)) := below_at hb9 (by first | omega | (simp; done) | (simp; omega)) (by (repeat (first | (with_reducible assumption) | (with_reducible exact alloc_at _ _) | ((with_reducible apply alloc_at'); (simp; done)) | (with_reducible apply alloc_at_lt) | (with_reducible apply heap_drew_at) | (with_reducible apply heap_drewN_at) | (with_reducible apply heap_setCell_same) | ((with_reducible apply heap_set_ne); (first | omega | (dsimp only; omega) | (simp; done) | (simp; omega))) | (with_reducible apply setRow_at) | ((with_reducible apply setRow_ne); (first | omega | (dsimp only; omega) | (simp; done) | (simp; omega))))))
  have X_9 : w9.heap[w1.heap.size]? = some (.cells #[.string s, .int .i64 a, .int .i64 b, .int .i64 c, .int .i64 d] 31 (0, 0)) := below_at hb9 (by first | omega | (simp; done) | (simp; omega)) (by (repeat (first | (with_reducible assumption) | (with_reducible exact alloc_at _ _) | ((with_reducible apply alloc_at'); (simp; done)) | (with_reducible apply alloc_at_lt) | (with_reducible apply heap_drew_at) | (with_reducible apply heap_drewN_at) | (with_reducible apply heap_setCell_same) | ((with_reducible apply heap_set_ne); (first | omega | (dsimp only; omega) | (simp; done) | (simp; omega))) | (with_reducible apply setRow_at) | ((with_reducible apply setRow_ne); (first | omega | (dsimp only; omega) | (simp; done) | (simp; omega))))))
  have B9 : Below w.heap.size w w9 := Below.trans (by repeat (first | with_reducible assumption | with_reducible exact Below.refl _ _ | with_reducible refine Below.drew ?_ | with_reducible refine below_drewN ?_ _ | with_reducible refine below_alloc ?_ _ | with_reducible refine Below.alloc ?_ (by first | omega | (simp; done) | (simp; omega)) _ | with_reducible refine Below.setCell ?_ (by first | omega | (simp; done) | (simp; omega)) _ | with_reducible refine below_setRow ?_ (by first | omega | (simp; done) | (simp; omega)) _)) (hb9.mono (by first | omega | (simp; done) | (simp; omega)))
  clear hb9 V_8 X_8
  clear Vc0 Vc1 Vc2 Vc3 Vcf
  clear Xc0 Xc1 Xc2 Xc3 Xc4 Xcf
  have Vc0 : w9.cell? ⟨w.heap.size, 0, none⟩ = some (.int .i64 a) := (blk_cell V_9 0).trans rfl
  have Vc1 : w9.cell? ⟨w.heap.size, 1, none⟩ = some (.int .i64 b) := (blk_cell V_9 1).trans rfl
  have Vc2 : w9.cell? ⟨w.heap.size, 2, none⟩ = some (.int .i64 c) := (blk_cell V_9 2).trans rfl
  have Vc3 : w9.cell? ⟨w.heap.size, 3, none⟩ = some (.int .i64 d) := (blk_cell V_9 3).trans rfl
  have Vcf := blk_free V_9
  have Xc0 : w9.cell? ⟨w1.heap.size, 0, none⟩ = some (.string s) := (blk_cell X_9 0).trans rfl
  have Xc1 : w9.cell? ⟨w1.heap.size, 1, none⟩ = some (.int .i64 a) := (blk_cell X_9 1).trans rfl
  have Xc2 : w9.cell? ⟨w1.heap.size, 2, none⟩ = some (.int .i64 b) := (blk_cell X_9 2).trans rfl
  have Xc3 : w9.cell? ⟨w1.heap.size, 3, none⟩ = some (.int .i64 c) := (blk_cell X_9 3).trans rfl
  have Xc4 : w9.cell? ⟨w1.heap.size, 4, none⟩ = some (.int .i64 d) := (blk_cell X_9 4).trans rfl
  have Xcf := blk_free X_9
  have Vl9 : w.heap.size < w9.heap.size := by omega
  have Xl9 : w1.heap.size < w9.heap.size := by omega
  go_wp2_with fail
  refine (givez_nil none 0 _).mono ?_
  rintro e w10 ⟨rfl, hb10⟩
  have hs10 := hb10.size
  try simp only [World.size_alloc, World.size_setCell] at hs10
  have V_10 : w10.heap[w.heap.size]? = some (.cells #[.int .i64 a, .int .i64 b, .int .i64 c, .int .i64 d] 29 (0, 0)) := below_at hb10 (by first | omega | (simp; done) | (simp; omega)) (by (repeat (first | (with_reducible assumption) | (with_reducible exact alloc_at _ _) | ((with_reducible apply alloc_at'); (simp; done)) | (with_reducible apply alloc_at_lt) | (with_reducible apply heap_drew_at) | (with_reducible apply heap_drewN_at) | (with_reducible apply heap_setCell_same) | ((with_reducible apply heap_set_ne); (first | omega | (dsimp only; omega) | (simp; done) | (simp; omega))) | (with_reducible apply setRow_at) | ((with_reducible apply setRow_ne); (first | omega | (dsimp only; omega) | (simp; done) | (simp; omega))))))
  have X_10 : w10.heap[w1.heap.size]? = some (.cells #[.string s, .int .i64 a, .int .i64 b, .int .i64 c, .int .i64 d] 31 (0, 0)) := below_at hb10 (by first | omega | (simp; done) | (simp; omega)) (by (repeat (first | (with_reducible assumption) | (with_reducible exact alloc_at _ _) | ((with_reducible apply alloc_at'); (simp; done)) | (with_reducible apply alloc_at_lt) | (with_reducible apply heap_drew_at) | (with_reducible apply heap_drewN_at) | (with_reducible apply heap_setCell_same) | ((with_reducible apply heap_set_ne); (first | omega | (dsimp only; omega) | (simp; done) | (simp; omega))) | (with_reducible apply setRow_at) | ((with_reducible apply setRow_ne); (first | omega | (dsimp only; omega) | (simp; done) | (simp; omega))))))
  have B10 : Below w.heap.size w w10 := Below.trans (by repeat (first | with_reducible assumption | with_reducible exact Below.refl _ _ | with_reducible refine Below.drew ?_ | with_reducible refine below_drewN ?_ _ | with_reducible refine below_alloc ?_ _ | with_reducible refine Below.alloc ?_ (by first | omega | (simp; done) | (simp; omega)) _ | with_reducible refine Below.setCell ?_ (by first | omega | (simp; done) | (simp; omega)) _ | with_reducible refine below_setRow ?_ (by first | omega | (simp; done) | (simp; omega)) _)) (hb10.mono (by first | omega | (simp; done) | (simp; omega)))
  clear hb10 V_9 X_9
  clear Vc0 Vc1 Vc2 Vc3 Vcf
  clear Xc0 Xc1 Xc2 Xc3 Xc4 Xcf
  have Vc0 : w10.cell? ⟨w.heap.size, 0, none⟩ = some (.int .i64 a) := (blk_cell V_10 0).trans rfl
  have Vc1 : w10.cell? ⟨w.heap.size, 1, none⟩ = some (.int .i64 b) := (blk_cell V_10 1).trans rfl
  have Vc2 : w10.cell? ⟨w.heap.size, 2, none⟩ = some (.int .i64 c) := (blk_cell V_10 2).trans rfl
  have Vc3 : w10.cell? ⟨w.heap.size, 3, none⟩ = some (.int .i64 d) := (blk_cell V_10 3).trans rfl
  have Vcf := blk_free V_10
  have Xc0 : w10.cell? ⟨w1.heap.size, 0, none⟩ = some (.string s) := (blk_cell X_10 0).trans rfl
  have Xc1 : w10.cell? ⟨w1.heap.size, 1, none⟩ = some (.int .i64 a) := (blk_cell X_10 1).trans rfl
  have Xc2 : w10.cell? ⟨w1.heap.size, 2, none⟩ = some (.int .i64 b) := (blk_cell X_10 2).trans rfl
  have Xc3 : w10.cell? ⟨w1.heap.size, 3, none⟩ = some (.int .i64 c) := (blk_cell X_10 3).trans rfl
  have Xc4 : w10.cell? ⟨w1.heap.size, 4, none⟩ = some (.int .i64 d) := (blk_cell X_10 4).trans rfl
  have Xcf := blk_free X_10
  have Vl10 : w.heap.size < w10.heap.size := by omega
  have Xl10 : w1.heap.size < w10.heap.size := by omega
  go_wp2_with fail
  refine (namesz _).mono ?_
  rintro e w11 ⟨rfl, hb11⟩
  have hs11 := hb11.size
  try simp only [World.size_alloc, World.size_setCell] at hs11
  have V_11 : w11.heap[w.heap.size]? = some (.cells #[.int .i64 a, .int .i64 b, .int .i64 c, .int .i64 d] 29 (0, 0)) := below_at hb11 (by first | omega | (simp; done) | (simp; omega)) (by (repeat (first | (with_reducible assumption) | (with_reducible exact alloc_at _ _) | ((with_reducible apply alloc_at'); (simp; done)) | (with_reducible apply alloc_at_lt) | (with_reducible apply heap_drew_at) | (with_reducible apply heap_drewN_at) | (with_reducible apply heap_setCell_same) | ((with_reducible apply heap_set_ne); (first | omega | (dsimp only; omega) | (simp; done) | (simp; omega))) | (with_reducible apply setRow_at) | ((with_reducible apply setRow_ne); (first | omega | (dsimp only; omega) | (simp; done) | (simp; omega))))))
  have X_11 : w11.heap[w1.heap.size]? = some (.cells #[.string s, .int .i64 a, .int .i64 b, .int .i64 c, .int .i64 d] 31 (0, 0)) := below_at hb11 (by first | omega | (simp; done) | (simp; omega)) (by (repeat (first | (with_reducible assumption) | (with_reducible exact alloc_at _ _) | ((with_reducible apply alloc_at'); (simp; done)) | (with_reducible apply alloc_at_lt) | (with_reducible apply heap_drew_at) | (with_reducible apply heap_drewN_at) | (with_reducible apply heap_setCell_same) | ((with_reducible apply heap_set_ne); (first | omega | (dsimp only; omega) | (simp; done) | (simp; omega))) | (with_reducible apply setRow_at) | ((with_reducible apply setRow_ne); (first | omega | (dsimp only; omega) | (simp; done) | (simp; omega))))))
  have B11 : Below w.heap.size w w11 := Below.trans (by repeat (first | with_reducible assumption | with_reducible exact Below.refl _ _ | with_reducible refine Below.drew ?_ | with_reducible refine below_drewN ?_ _ | with_reducible refine below_alloc ?_ _ | with_reducible refine Below.alloc ?_ (by first | omega | (simp; done) | (simp; omega)) _ | with_reducible refine Below.setCell ?_ (by first | omega | (simp; done) | (simp; omega)) _ | with_reducible refine below_setRow ?_ (by first | omega | (simp; done) | (simp; omega)) _)) (hb11.mono (by first | omega | (simp; done) | (simp; omega)))
  clear hb11 V_10 X_10
  clear Vc0 Vc1 Vc2 Vc3 Vcf
  clear Xc0 Xc1 Xc2 Xc3 Xc4 Xcf
  have Vc0 : w11.cell? ⟨w.heap.size, 0, none⟩ = some (.int .i64 a) := (blk_cell V_11 0).trans rfl
  have Vc1 : w11.cell? ⟨w.heap.size, 1, none⟩ = some (.int .i64 b) := (blk_cell V_11 1).trans rfl
  have Vc2 : w11.cell? ⟨w.heap.size, 2, none⟩ = some (.int .i64 c) := (blk_cell V_11 2).trans rfl
  have Vc3 : w11.cell? ⟨w.heap.size, 3, none⟩ = some (.int .i64 d) := (blk_cell V_11 3).trans rfl
  have Vcf := blk_free V_11
  have Xc0 : w11.cell? ⟨w1.heap.size, 0, none⟩ = some (.string s) := (blk_cell X_11 0).trans rfl
  have Xc1 : w11.cell? ⟨w1.heap.size, 1, none⟩ = some (.int .i64 a) := (blk_cell X_11 1).trans rfl
  have Xc2 : w11.cell? ⟨w1.heap.size, 2, none⟩ = some (.int .i64 b) := (blk_cell X_11 2).trans rfl
  have Xc3 : w11.cell? ⟨w1.heap.size, 3, none⟩ = some (.int .i64 c) := (blk_cell X_11 3).trans rfl
  have Xc4 : w11.cell? ⟨w1.heap.size, 4, none⟩ = some (.int .i64 d) := (blk_cell X_11 4).trans rfl
  have Xcf := blk_free X_11
  have Vl11 : w.heap.size < w11.heap.size := by omega
  have Xl11 : w1.heap.size < w11.heap.size := by omega
  go_upto_region 13 with fail
  refine wp_name ?_
  intro wn hwn
  have LEDN : LedB w.heap.size wn w11.heap.size 0 noA := ⟨by omega, inv_none, by omega, none, ⟨by rw [hwn]; exact (by (repeat (first | (with_reducible assumption) | (with_reducible exact alloc_at _ _) | ((with_reducible apply alloc_at'); (simp; done)) | (with_reducible apply alloc_at_lt) | (with_reducible apply heap_drew_at) | (with_reducible apply heap_drewN_at) | (with_reducible apply heap_setCell_same) | ((with_reducible apply heap_set_ne); (first | omega | (dsimp only; omega) | (simp; done) | (simp; omega))) | (with_reducible apply setRow_at) | ((with_reducible apply setRow_ne); (first | omega | (dsimp only; omega) | (simp; done) | (simp; omega)))))), rfl, rfl⟩, fun b e => by cases e⟩
  have hVn : wn.heap[w.heap.size]? = some (.cells #[.int .i64 a, .int .i64 b, .int .i64 c, .int .i64 d] 29 (0, 0)) := by rw [hwn]; exact (by (repeat (first | (with_reducible assumption) | (with_reducible exact alloc_at _ _) | ((with_reducible apply alloc_at'); (simp; done)) | (with_reducible apply alloc_at_lt) | (with_reducible apply heap_drew_at) | (with_reducible apply heap_drewN_at) | (with_reducible apply heap_setCell_same) | ((with_reducible apply heap_set_ne); (first | omega | (dsimp only; omega) | (simp; done) | (simp; omega))) | (with_reducible apply setRow_at) | ((with_reducible apply setRow_ne); (first | omega | (dsimp only; omega) | (simp; done) | (simp; omega))))))
  have hXn : wn.heap[w1.heap.size]? = some (.cells #[.string s, .int .i64 a, .int .i64 b, .int .i64 c, .int .i64 d] 31 (0, 0)) := by rw [hwn]; exact (by (repeat (first | (with_reducible assumption) | (with_reducible exact alloc_at _ _) | ((with_reducible apply alloc_at'); (simp; done)) | (with_reducible apply alloc_at_lt) | (with_reducible apply heap_drew_at) | (with_reducible apply heap_drewN_at) | (with_reducible apply heap_setCell_same) | ((with_reducible apply heap_set_ne); (first | omega | (dsimp only; omega) | (simp; done) | (simp; omega))) | (with_reducible apply setRow_at) | ((with_reducible apply setRow_ne); (first | omega | (dsimp only; omega) | (simp; done) | (simp; omega))))))
  have hBn : Below w.heap.size w wn := by rw [hwn]; exact (by repeat (first | with_reducible assumption | with_reducible exact Below.refl _ _ | with_reducible refine Below.drew ?_ | with_reducible refine below_drewN ?_ _ | with_reducible refine below_alloc ?_ _ | with_reducible refine Below.alloc ?_ (by first | omega | (simp; done) | (simp; omega)) _ | with_reducible refine Below.setCell ?_ (by first | omega | (simp; done) | (simp; omega)) _ | with_reducible refine below_setRow ?_ (by first | omega | (simp; done) | (simp; omega)) _))
  have szn : w11.heap.size < wn.heap.size := LEDN.lt
  have kV : w.heap.size ≠ w11.heap.size := by omega
  have kX : w1.heap.size ≠ w11.heap.size := by omega
  have HLN := hid LEDN
  clear hwn LEDN Vc0 Vc1 Vc2 Vc3 Vcf Xc0 Xc1 Xc2 Xc3 Xc4 Xcf V_11 X_11
  have hOp : ∀ W, w.heap.size ≤ W.heap.size → LedB w.heap.size W w11.heap.size 0 noA → Calls Try.prog 11 #[.pointer (some ⟨w11.heap.size, 0, none⟩), .string s, .agg #[.int .i64 a, .int .i64 b, .int .i64 c, .int .i64 d]] W fun e w' => e = .returned (.int .i64 0) ∧ LedB w.heap.size w' w11.heap.size 1 (putA noA s.data.toList ((a, b, c, d), zeroV)) ∧ Below w.heap.size W w' ∧ KeptC W w' w11.heap.size := fun W h1 h2 => by
    have h := open_b w.heap.size w11.heap.size 0 noA s a b c d W h1 h2 HS.out
    obtain ⟨g1, g2, g3⟩ := open_new_z true s (a, b, c, d) hv
    rw [g1, g2, g3] at h
    exact h
  have hTk : ∀ W g, w.heap.size ≤ W.heap.size → LedB w.heap.size W w11.heap.size 1 (putA noA s.data.toList ((a, b, c, d), zeroV)) → W.heap[g]? = some (.cells #[.string s, .int .i64 a, .int .i64 b, .int .i64 c, .int .i64 d] 31 (0, 0)) → Calls Try.prog 12 #[.pointer (some ⟨w11.heap.size, 0, none⟩), .slice (some ⟨g, 0, none⟩) 1 1] W fun e w' => e = .returned (.int .i64 0) ∧ Below w.heap.size W w' ∧ KeptC W w' w11.heap.size := fun W g h1 h2 h3 => by
    have h := take_b w.heap.size w11.heap.size _ _ (some ⟨g, 0, none⟩) 1 1 [(s, a, b, c, d)] W h1 h2 (by unfold maxLen; simp) (holdsE_one HS.out h3)
    rw [show takeE (putA noA s.data.toList ((a, b, c, d), zeroV)) [(s, a, b, c, d)] = 0 from take_z_true s (a, b, c, d) hv] at h
    exact h.mono fun _ _ ⟨x1, _, x3, x4⟩ => ⟨x1, x3, x4⟩
  skip
  go_region_held3 (fun w' => Below w.heap.size w w' ∧ w'.heap[w.heap.size]? = some (.cells #[.int .i64 a, .int .i64 b, .int .i64 c, .int .i64 d] 29 (0, 0)) ∧ w'.heap[w1.heap.size]? = some (.cells #[.string s, .int .i64 a, .int .i64 b, .int .i64 c, .int .i64 d] 31 (0, 0)) ∧ w'.cell? ⟨w.heap.size, 0, none⟩ = some (.int .i64 a) ∧ w'.cell? ⟨w.heap.size, 1, none⟩ = some (.int .i64 b) ∧ w'.cell? ⟨w.heap.size, 2, none⟩ = some (.int .i64 c) ∧ w'.cell? ⟨w.heap.size, 3, none⟩ = some (.int .i64 d) ∧ w'.cell? ⟨w1.heap.size, 0, none⟩ = some (.string s) ∧ w'.cell? ⟨w1.heap.size, 1, none⟩ = some (.int .i64 a) ∧ w'.cell? ⟨w1.heap.size, 2, none⟩ = some (.int .i64 b) ∧ w'.cell? ⟨w1.heap.size, 3, none⟩ = some (.int .i64 c) ∧ w'.cell? ⟨w1.heap.size, 4, none⟩ = some (.int .i64 d)) (((try go_split_ands); (try dsimp only); refine keep_two (by first | assumption | exact Below.drew (by assumption) | exact below_allocB (by omega) (by assumption) _ ) (by first | assumption | (apply heap_drew_at; assumption) | (apply alloc_at_lt; assumption) | (apply alloc_at_lt; apply heap_drew_at; assumption)) (by first | assumption | (apply heap_drew_at; assumption) | (apply alloc_at_lt; assumption) | (apply alloc_at_lt; apply heap_drew_at; assumption)))) (first | (go_at_call 11; refine (hOp _ (by first | (simp only [heap_drew]; omega) | (simp; omega) | omega) (HLN.out.below (by first | exact Below.refl _ _ | exact (Below.refl _ _).drew))).mono ?_; rintro e w91 ⟨rfl, hL91, hB91, hK91⟩; have hV91 : w91.heap[w.heap.size]? = some (.cells #[.int .i64 a, .int .i64 b, .int .i64 c, .int .i64 d] 29 (0, 0)) := hK91 _ _ _ _ kV (by first | assumption | (apply heap_drew_at; assumption) | (apply alloc_at_lt; assumption) | (apply alloc_at_lt; apply heap_drew_at; assumption)); have hX91 : w91.heap[w1.heap.size]? = some (.cells #[.string s, .int .i64 a, .int .i64 b, .int .i64 c, .int .i64 d] 31 (0, 0)) := hK91 _ _ _ _ kX (by first | assumption | (apply heap_drew_at; assumption) | (apply alloc_at_lt; assumption) | (apply alloc_at_lt; apply heap_drew_at; assumption)); have hBB91 := Below.trans (by first | assumption | exact Below.drew (by assumption) | exact below_allocB (by omega) (by assumption) _ ) hB91; have hsz91 := hBB91.size) | (go_at_call 22; refine (hF _).mono ?_; rintro e w92 ⟨rfl, hb92⟩; have hV92 : w92.heap[w.heap.size]? = some (.cells #[.int .i64 a, .int .i64 b, .int .i64 c, .int .i64 d] 29 (0, 0)) := below_atW hb92 (by first | assumption | (apply heap_drew_at; assumption) | (apply alloc_at_lt; assumption) | (apply alloc_at_lt; apply heap_drew_at; assumption)); have hX92 : w92.heap[w1.heap.size]? = some (.cells #[.string s, .int .i64 a, .int .i64 b, .int .i64 c, .int .i64 d] 31 (0, 0)) := below_atW hb92 (by first | assumption | (apply heap_drew_at; assumption) | (apply alloc_at_lt; assumption) | (apply alloc_at_lt; apply heap_drew_at; assumption)); have hBB92 := below_call (by first | assumption | exact Below.drew (by assumption) | exact below_allocB (by omega) (by assumption) _ ) hb92; have hsz92 := hBB92.size) | (go_at_call 12; refine (hTk _ _ (by first | (simp only [heap_drew]; omega) | (simp; omega) | omega) (LedB.below (by assumption) (by first | assumption | exact below_alloc (by assumption) _ | exact (below_alloc (Below.refl _ _) _))) (alloc_at _ _)).mono ?_; rintro e w93 ⟨rfl, hB93, hK93⟩; have hV93 : w93.heap[w.heap.size]? = some (.cells #[.int .i64 a, .int .i64 b, .int .i64 c, .int .i64 d] 29 (0, 0)) := hK93 _ _ _ _ kV (by first | assumption | (apply heap_drew_at; assumption) | (apply alloc_at_lt; assumption) | (apply alloc_at_lt; apply heap_drew_at; assumption)); have hX93 : w93.heap[w1.heap.size]? = some (.cells #[.string s, .int .i64 a, .int .i64 b, .int .i64 c, .int .i64 d] 31 (0, 0)) := hK93 _ _ _ _ kX (by first | assumption | (apply heap_drew_at; assumption) | (apply alloc_at_lt; assumption) | (apply alloc_at_lt; apply heap_drew_at; assumption)); have hBB93 := Below.trans (by first | assumption | exact Below.drew (by assumption) | exact below_allocB (by omega) (by assumption) _ ) hB93; have hsz93 := hBB93.size))
  all_goals
    go_wp2
    go_ret
    exact ⟨by first | rfl | simp, by assumption⟩
set_option maxRecDepth 20000 in
set_option maxHeartbeats 4000000 in
theorem ledgerNil_false (s : ByteArray) (a b c d : Int) (w : World) (hs : s.size ≤ maxLen) (hv : okV (a, b, c, d) = false) :
    Calls Try.prog 8 #[.string s, .agg #[.int .i64 a, .int .i64 b, .int .i64 c, .int .i64 d]] w fun e w' => e = .returned (.bool true) ∧ Below w.heap.size w w' := by
  have HS := hid hs
  clear hs
  have hF : ∀ W, Calls Try.prog 22 #[.agg #[.int .i64 a, .int .i64 b, .int .i64 c, .int .i64 d]] W fun e w' => e = .returned (.bool false) ∧ Below W.heap.size W w' := fun W => by have h := rformed_any a b c d W; rw [show formedB a b c d = false from hv] at h; exact h
  have hz : zE (a, b, c, d) = 4 := by simp [zE, hv]
  go_enter Try.func8, Try.ntmps8
  go_wp2_with fail
  refine (awake_any _).mono ?_
  rintro e w1 ⟨rfl, hb1⟩
  have hs1 := hb1.size
  try simp only [World.size_alloc, World.size_setCell] at hs1
  have V_1 : w1.heap[w.heap.size]? = some (.cells #[.int .i64 a, .int .i64 b, .int .i64 c, .int .i64 d] 29 (0, 0)) := below_at hb1 (by first | omega | (simp; done) | (simp; omega)) (by (repeat (first | (with_reducible assumption) | (with_reducible exact alloc_at _ _) | ((with_reducible apply alloc_at'); (simp; done)) | (with_reducible apply alloc_at_lt) | (with_reducible apply heap_drew_at) | (with_reducible apply heap_drewN_at) | (with_reducible apply heap_setCell_same) | ((with_reducible apply heap_set_ne); (first | omega | (dsimp only; omega) | (simp; done) | (simp; omega))) | (with_reducible apply setRow_at) | ((with_reducible apply setRow_ne); (first | omega | (dsimp only; omega) | (simp; done) | (simp; omega))))))
  have B1 : Below w.heap.size w w1 := Below.trans (by repeat (first | with_reducible assumption | with_reducible exact Below.refl _ _ | with_reducible refine Below.drew ?_ | with_reducible refine below_drewN ?_ _ | with_reducible refine below_alloc ?_ _ | with_reducible refine Below.alloc ?_ (by first | omega | (simp; done) | (simp; omega)) _ | with_reducible refine Below.setCell ?_ (by first | omega | (simp; done) | (simp; omega)) _ | with_reducible refine below_setRow ?_ (by first | omega | (simp; done) | (simp; omega)) _)) (hb1.mono (by first | omega | (simp; done) | (simp; omega)))
  clear hb1
  have Vc0 : w1.cell? ⟨w.heap.size, 0, none⟩ = some (.int .i64 a) := (blk_cell V_1 0).trans rfl
  have Vc1 : w1.cell? ⟨w.heap.size, 1, none⟩ = some (.int .i64 b) := (blk_cell V_1 1).trans rfl
  have Vc2 : w1.cell? ⟨w.heap.size, 2, none⟩ = some (.int .i64 c) := (blk_cell V_1 2).trans rfl
  have Vc3 : w1.cell? ⟨w.heap.size, 3, none⟩ = some (.int .i64 d) := (blk_cell V_1 3).trans rfl
  have Vcf := blk_free V_1
  have Vl1 : w.heap.size < w1.heap.size := by omega
  go_wp2_with fail
  refine (usedz s _).mono ?_
  rintro e w2 ⟨rfl, hb2⟩
  have hs2 := hb2.size
  try simp only [World.size_alloc, World.size_setCell] at hs2
  have V_2 : w2.heap[w.heap.size]? = some (.cells #[.int .i64 a, .int .i64 b, .int .i64 c, .int .i64 d] 29 (0, 0)) := below_at hb2 (by first | omega | (simp; done) | (simp; omega)) (by (repeat (first | (with_reducible assumption) | (with_reducible exact alloc_at _ _) | ((with_reducible apply alloc_at'); (simp; done)) | (with_reducible apply alloc_at_lt) | (with_reducible apply heap_drew_at) | (with_reducible apply heap_drewN_at) | (with_reducible apply heap_setCell_same) | ((with_reducible apply heap_set_ne); (first | omega | (dsimp only; omega) | (simp; done) | (simp; omega))) | (with_reducible apply setRow_at) | ((with_reducible apply setRow_ne); (first | omega | (dsimp only; omega) | (simp; done) | (simp; omega))))))
  have X_2 : w2.heap[w1.heap.size]? = some (.cells #[.string s, .int .i64 a, .int .i64 b, .int .i64 c, .int .i64 d] 31 (0, 0)) := below_at hb2 (by first | omega | (simp; done) | (simp; omega)) (by (repeat (first | (with_reducible assumption) | (with_reducible exact alloc_at _ _) | ((with_reducible apply alloc_at'); (simp; done)) | (with_reducible apply alloc_at_lt) | (with_reducible apply heap_drew_at) | (with_reducible apply heap_drewN_at) | (with_reducible apply heap_setCell_same) | ((with_reducible apply heap_set_ne); (first | omega | (dsimp only; omega) | (simp; done) | (simp; omega))) | (with_reducible apply setRow_at) | ((with_reducible apply setRow_ne); (first | omega | (dsimp only; omega) | (simp; done) | (simp; omega))))))
  have B2 : Below w.heap.size w w2 := Below.trans (by repeat (first | with_reducible assumption | with_reducible exact Below.refl _ _ | with_reducible refine Below.drew ?_ | with_reducible refine below_drewN ?_ _ | with_reducible refine below_alloc ?_ _ | with_reducible refine Below.alloc ?_ (by first | omega | (simp; done) | (simp; omega)) _ | with_reducible refine Below.setCell ?_ (by first | omega | (simp; done) | (simp; omega)) _ | with_reducible refine below_setRow ?_ (by first | omega | (simp; done) | (simp; omega)) _)) (hb2.mono (by first | omega | (simp; done) | (simp; omega)))
  clear hb2 V_1
  clear Vc0 Vc1 Vc2 Vc3 Vcf
  have Vc0 : w2.cell? ⟨w.heap.size, 0, none⟩ = some (.int .i64 a) := (blk_cell V_2 0).trans rfl
  have Vc1 : w2.cell? ⟨w.heap.size, 1, none⟩ = some (.int .i64 b) := (blk_cell V_2 1).trans rfl
  have Vc2 : w2.cell? ⟨w.heap.size, 2, none⟩ = some (.int .i64 c) := (blk_cell V_2 2).trans rfl
  have Vc3 : w2.cell? ⟨w.heap.size, 3, none⟩ = some (.int .i64 d) := (blk_cell V_2 3).trans rfl
  have Vcf := blk_free V_2
  have Xc0 : w2.cell? ⟨w1.heap.size, 0, none⟩ = some (.string s) := (blk_cell X_2 0).trans rfl
  have Xc1 : w2.cell? ⟨w1.heap.size, 1, none⟩ = some (.int .i64 a) := (blk_cell X_2 1).trans rfl
  have Xc2 : w2.cell? ⟨w1.heap.size, 2, none⟩ = some (.int .i64 b) := (blk_cell X_2 2).trans rfl
  have Xc3 : w2.cell? ⟨w1.heap.size, 3, none⟩ = some (.int .i64 c) := (blk_cell X_2 3).trans rfl
  have Xc4 : w2.cell? ⟨w1.heap.size, 4, none⟩ = some (.int .i64 d) := (blk_cell X_2 4).trans rfl
  have Xcf := blk_free X_2
  have Vl2 : w.heap.size < w2.heap.size := by omega
  have Xl2 : w1.heap.size < w2.heap.size := by omega
  go_wp2_with fail
  refine (leftz s _).mono ?_
  rintro e w3 ⟨rfl, hb3⟩
  have hs3 := hb3.size
  try simp only [World.size_alloc, World.size_setCell] at hs3
  have V_3 : w3.heap[w.heap.size]? = some (.cells #[.int .i64 a, .int .i64 b, .int .i64 c, .int .i64 d] 29 (0, 0)) := below_at hb3 (by first | omega | (simp; done) | (simp; omega)) (by (repeat (first | (with_reducible assumption) | (with_reducible exact alloc_at _ _) | ((with_reducible apply alloc_at'); (simp; done)) | (with_reducible apply alloc_at_lt) | (with_reducible apply heap_drew_at) | (with_reducible apply heap_drewN_at) | (with_reducible apply heap_setCell_same) | ((with_reducible apply heap_set_ne); (first | omega | (dsimp only; omega) | (simp; done) | (simp; omega))) | (with_reducible apply setRow_at) | ((with_reducible apply setRow_ne); (first | omega | (dsimp only; omega) | (simp; done) | (simp; omega))))))
  have X_3 : w3.heap[w1.heap.size]? = some (.cells #[.string s, .int .i64 a, .int .i64 b, .int .i64 c, .int .i64 d] 31 (0, 0)) := below_at hb3 (by first | omega | (simp; done) | (simp; omega)) (by (repeat (first | (with_reducible assumption) | (with_reducible exact alloc_at _ _) | ((with_reducible apply alloc_at'); (simp; done)) | (with_reducible apply alloc_at_lt) | (with_reducible apply heap_drew_at) | (with_reducible apply heap_drewN_at) | (with_reducible apply heap_setCell_same) | ((with_reducible apply heap_set_ne); (first | omega | (dsimp only; omega) | (simp; done) | (simp; omega))) | (with_reducible apply setRow_at) | ((with_reducible apply setRow_ne); (first | omega | (dsimp only; omega) | (simp; done) | (simp; omega))))))
  have B3 : Below w.heap.size w w3 := Below.trans (by repeat (first | with_reducible assumption | with_reducible exact Below.refl _ _ | with_reducible refine Below.drew ?_ | with_reducible refine below_drewN ?_ _ | with_reducible refine below_alloc ?_ _ | with_reducible refine Below.alloc ?_ (by first | omega | (simp; done) | (simp; omega)) _ | with_reducible refine Below.setCell ?_ (by first | omega | (simp; done) | (simp; omega)) _ | with_reducible refine below_setRow ?_ (by first | omega | (simp; done) | (simp; omega)) _)) (hb3.mono (by first | omega | (simp; done) | (simp; omega)))
  clear hb3 V_2 X_2
  clear Vc0 Vc1 Vc2 Vc3 Vcf
  clear Xc0 Xc1 Xc2 Xc3 Xc4 Xcf
  have Vc0 : w3.cell? ⟨w.heap.size, 0, none⟩ = some (.int .i64 a) := (blk_cell V_3 0).trans rfl
  have Vc1 : w3.cell? ⟨w.heap.size, 1, none⟩ = some (.int .i64 b) := (blk_cell V_3 1).trans rfl
  have Vc2 : w3.cell? ⟨w.heap.size, 2, none⟩ = some (.int .i64 c) := (blk_cell V_3 2).trans rfl
  have Vc3 : w3.cell? ⟨w.heap.size, 3, none⟩ = some (.int .i64 d) := (blk_cell V_3 3).trans rfl
  have Vcf := blk_free V_3
  have Xc0 : w3.cell? ⟨w1.heap.size, 0, none⟩ = some (.string s) := (blk_cell X_3 0).trans rfl
  have Xc1 : w3.cell? ⟨w1.heap.size, 1, none⟩ = some (.int .i64 a) := (blk_cell X_3 1).trans rfl
  have Xc2 : w3.cell? ⟨w1.heap.size, 2, none⟩ = some (.int .i64 b) := (blk_cell X_3 2).trans rfl
  have Xc3 : w3.cell? ⟨w1.heap.size, 3, none⟩ = some (.int .i64 c) := (blk_cell X_3 3).trans rfl
  have Xc4 : w3.cell? ⟨w1.heap.size, 4, none⟩ = some (.int .i64 d) := (blk_cell X_3 4).trans rfl
  have Xcf := blk_free X_3
  have Vl3 : w.heap.size < w3.heap.size := by omega
  have Xl3 : w1.heap.size < w3.heap.size := by omega
  go_wp2_with fail
  refine (hF _).mono ?_
  rintro e w4 ⟨rfl, hb4⟩
  have hs4 := hb4.size
  try simp only [World.size_alloc, World.size_setCell] at hs4
  have V_4 : w4.heap[w.heap.size]? = some (.cells #[.int .i64 a, .int .i64 b, .int .i64 c, .int .i64 d] 29 (0, 0)) := below_at hb4 (by first | omega | (simp; done) | (simp; omega)) (by (repeat (first | (with_reducible assumption) | (with_reducible exact alloc_at _ _) | ((with_reducible apply alloc_at'); (simp; done)) | (with_reducible apply alloc_at_lt) | (with_reducible apply heap_drew_at) | (with_reducible apply heap_drewN_at) | (with_reducible apply heap_setCell_same) | ((with_reducible apply heap_set_ne); (first | omega | (dsimp only; omega) | (simp; done) | (simp; omega))) | (with_reducible apply setRow_at) | ((with_reducible apply setRow_ne); (first | omega | (dsimp only; omega) | (simp; done) | (simp; omega))))))
  have X_4 : w4.heap[w1.heap.size]? = some (.cells #[.string s, .int .i64 a, .int .i64 b, .int .i64 c, .int .i64 d] 31 (0, 0)) := below_at hb4 (by first | omega | (simp; done) | (simp; omega)) (by (repeat (first | (with_reducible assumption) | (with_reducible exact alloc_at _ _) | ((with_reducible apply alloc_at'); (simp; done)) | (with_reducible apply alloc_at_lt) | (with_reducible apply heap_drew_at) | (with_reducible apply heap_drewN_at) | (with_reducible apply heap_setCell_same) | ((with_reducible apply heap_set_ne); (first | omega | (dsimp only; omega) | (simp; done) | (simp; omega))) | (with_reducible apply setRow_at) | ((with_reducible apply setRow_ne); (first | omega | (dsimp only; omega) | (simp; done) | (simp; omega))))))
  have B4 : Below w.heap.size w w4 := Below.trans (by repeat (first | with_reducible assumption | with_reducible exact Below.refl _ _ | with_reducible refine Below.drew ?_ | with_reducible refine below_drewN ?_ _ | with_reducible refine below_alloc ?_ _ | with_reducible refine Below.alloc ?_ (by first | omega | (simp; done) | (simp; omega)) _ | with_reducible refine Below.setCell ?_ (by first | omega | (simp; done) | (simp; omega)) _ | with_reducible refine below_setRow ?_ (by first | omega | (simp; done) | (simp; omega)) _)) (hb4.mono (by first | omega | (simp; done) | (simp; omega)))
  clear hb4 V_3 X_3
  clear Vc0 Vc1 Vc2 Vc3 Vcf
  clear Xc0 Xc1 Xc2 Xc3 Xc4 Xcf
  have Vc0 : w4.cell? ⟨w.heap.size, 0, none⟩ = some (.int .i64 a) := (blk_cell V_4 0).trans rfl
  have Vc1 : w4.cell? ⟨w.heap.size, 1, none⟩ = some (.int .i64 b) := (blk_cell V_4 1).trans rfl
  have Vc2 : w4.cell? ⟨w.heap.size, 2, none⟩ = some (.int .i64 c) := (blk_cell V_4 2).trans rfl
  have Vc3 : w4.cell? ⟨w.heap.size, 3, none⟩ = some (.int .i64 d) := (blk_cell V_4 3).trans rfl
  have Vcf := blk_free V_4
  have Xc0 : w4.cell? ⟨w1.heap.size, 0, none⟩ = some (.string s) := (blk_cell X_4 0).trans rfl
  have Xc1 : w4.cell? ⟨w1.heap.size, 1, none⟩ = some (.int .i64 a) := (blk_cell X_4 1).trans rfl
  have Xc2 : w4.cell? ⟨w1.heap.size, 2, none⟩ = some (.int .i64 b) := (blk_cell X_4 2).trans rfl
  have Xc3 : w4.cell? ⟨w1.heap.size, 3, none⟩ = some (.int .i64 c) := (blk_cell X_4 3).trans rfl
  have Xc4 : w4.cell? ⟨w1.heap.size, 4, none⟩ = some (.int .i64 d) := (blk_cell X_4 4).trans rfl
  have Xcf := blk_free X_4
  have Vl4 : w.heap.size < w4.heap.size := by omega
  have Xl4 : w1.heap.size < w4.heap.size := by omega
  go_wp2_with fail
  refine (openz s a b c d _).mono ?_
  rintro e w5 ⟨rfl, hb5⟩
  have hs5 := hb5.size
  try simp only [World.size_alloc, World.size_setCell] at hs5
  have V_5 : w5.heap[w.heap.size]? = some (.cells #[.int .i64 a, .int .i64 b, .int .i64 c, .int .i64 d] 29 (0, 0)) := below_at hb5 (by first | omega | (simp; done) | (simp; omega)) (by (repeat (first | (with_reducible assumption) | (with_reducible exact alloc_at _ _) | ((with_reducible apply alloc_at'); (simp; done)) | (with_reducible apply alloc_at_lt) | (with_reducible apply heap_drew_at) | (with_reducible apply heap_drewN_at) | (with_reducible apply heap_setCell_same) | ((with_reducible apply heap_set_ne); (first | omega | (dsimp only; omega) | (simp; done) | (simp; omega))) | (with_reducible apply setRow_at) | ((with_reducible apply setRow_ne); (first | omega | (dsimp only; omega) | (simp; done) | (simp; omega))))))
  have X_5 : w5.heap[w1.heap.size]? = some (.cells #[.string s, .int .i64 a, .int .i64 b, .int .i64 c, .int .i64 d] 31 (0, 0)) := below_at hb5 (by first | omega | (simp; done) | (simp; omega)) (by (repeat (first | (with_reducible assumption) | (with_reducible exact alloc_at _ _) | ((with_reducible apply alloc_at'); (simp; done)) | (with_reducible apply alloc_at_lt) | (with_reducible apply heap_drew_at) | (with_reducible apply heap_drewN_at) | (with_reducible apply heap_setCell_same) | ((with_reducible apply heap_set_ne); (first | omega | (dsimp only; omega) | (simp; done) | (simp; omega))) | (with_reducible apply setRow_at) | ((with_reducible apply setRow_ne); (first | omega | (dsimp only; omega) | (simp; done) | (simp; omega))))))
  have B5 : Below w.heap.size w w5 := Below.trans (by repeat (first | with_reducible assumption | with_reducible exact Below.refl _ _ | with_reducible refine Below.drew ?_ | with_reducible refine below_drewN ?_ _ | with_reducible refine below_alloc ?_ _ | with_reducible refine Below.alloc ?_ (by first | omega | (simp; done) | (simp; omega)) _ | with_reducible refine Below.setCell ?_ (by first | omega | (simp; done) | (simp; omega)) _ | with_reducible refine below_setRow ?_ (by first | omega | (simp; done) | (simp; omega)) _)) (hb5.mono (by first | omega | (simp; done) | (simp; omega)))
  clear hb5 V_4 X_4
  clear Vc0 Vc1 Vc2 Vc3 Vcf
  clear Xc0 Xc1 Xc2 Xc3 Xc4 Xcf
  have Vc0 : w5.cell? ⟨w.heap.size, 0, none⟩ = some (.int .i64 a) := (blk_cell V_5 0).trans rfl
  have Vc1 : w5.cell? ⟨w.heap.size, 1, none⟩ = some (.int .i64 b) := (blk_cell V_5 1).trans rfl
  have Vc2 : w5.cell? ⟨w.heap.size, 2, none⟩ = some (.int .i64 c) := (blk_cell V_5 2).trans rfl
  have Vc3 : w5.cell? ⟨w.heap.size, 3, none⟩ = some (.int .i64 d) := (blk_cell V_5 3).trans rfl
  have Vcf := blk_free V_5
  have Xc0 : w5.cell? ⟨w1.heap.size, 0, none⟩ = some (.string s) := (blk_cell X_5 0).trans rfl
  have Xc1 : w5.cell? ⟨w1.heap.size, 1, none⟩ = some (.int .i64 a) := (blk_cell X_5 1).trans rfl
  have Xc2 : w5.cell? ⟨w1.heap.size, 2, none⟩ = some (.int .i64 b) := (blk_cell X_5 2).trans rfl
  have Xc3 : w5.cell? ⟨w1.heap.size, 3, none⟩ = some (.int .i64 c) := (blk_cell X_5 3).trans rfl
  have Xc4 : w5.cell? ⟨w1.heap.size, 4, none⟩ = some (.int .i64 d) := (blk_cell X_5 4).trans rfl
  have Xcf := blk_free X_5
  have Vl5 : w.heap.size < w5.heap.size := by omega
  have Xl5 : w1.heap.size < w5.heap.size := by omega
  go_wp2_with fail
  refine (closez s _).mono ?_
  rintro e w6 ⟨rfl, hb6⟩
  have hs6 := hb6.size
  try simp only [World.size_alloc, World.size_setCell] at hs6
  have V_6 : w6.heap[w.heap.size]? = some (.cells #[.int .i64 a, .int .i64 b, .int .i64 c, .int .i64 d] 29 (0, 0)) := below_at hb6 (by first | omega | (simp; done) | (simp; omega)) (by (repeat (first | (with_reducible assumption) | (with_reducible exact alloc_at _ _) | ((with_reducible apply alloc_at'); (simp; done)) | (with_reducible apply alloc_at_lt) | (with_reducible apply heap_drew_at) | (with_reducible apply heap_drewN_at) | (with_reducible apply heap_setCell_same) | ((with_reducible apply heap_set_ne); (first | omega | (dsimp only; omega) | (simp; done) | (simp; omega))) | (with_reducible apply setRow_at) | ((with_reducible apply setRow_ne); (first | omega | (dsimp only; omega) | (simp; done) | (simp; omega))))))
  have X_6 : w6.heap[w1.heap.size]? = some (.cells #[.string s, .int .i64 a, .int .i64 b, .int .i64 c, .int .i64 d] 31 (0, 0)) := below_at hb6 (by first | omega | (simp; done) | (simp; omega)) (by (repeat (first | (with_reducible assumption) | (with_reducible exact alloc_at _ _) | ((with_reducible apply alloc_at'); (simp; done)) | (with_reducible apply alloc_at_lt) | (with_reducible apply heap_drew_at) | (with_reducible apply heap_drewN_at) | (with_reducible apply heap_setCell_same) | ((with_reducible apply heap_set_ne); (first | omega | (dsimp only; omega) | (simp; done) | (simp; omega))) | (with_reducible apply setRow_at) | ((with_reducible apply setRow_ne); (first | omega | (dsimp only; omega) | (simp; done) | (simp; omega))))))
  have B6 : Below w.heap.size w w6 := Below.trans (by repeat (first | with_reducible assumption | with_reducible exact Below.refl _ _ | with_reducible refine Below.drew ?_ | with_reducible refine below_drewN ?_ _ | with_reducible refine below_alloc ?_ _ | with_reducible refine Below.alloc ?_ (by first | omega | (simp; done) | (simp; omega)) _ | with_reducible refine Below.setCell ?_ (by first | omega | (simp; done) | (simp; omega)) _ | with_reducible refine below_setRow ?_ (by first | omega | (simp; done) | (simp; omega)) _)) (hb6.mono (by first | omega | (simp; done) | (simp; omega)))
  clear hb6 V_5 X_5
  clear Vc0 Vc1 Vc2 Vc3 Vcf
  clear Xc0 Xc1 Xc2 Xc3 Xc4 Xcf
  have Vc0 : w6.cell? ⟨w.heap.size, 0, none⟩ = some (.int .i64 a) := (blk_cell V_6 0).trans rfl
  have Vc1 : w6.cell? ⟨w.heap.size, 1, none⟩ = some (.int .i64 b) := (blk_cell V_6 1).trans rfl
  have Vc2 : w6.cell? ⟨w.heap.size, 2, none⟩ = some (.int .i64 c) := (blk_cell V_6 2).trans rfl
  have Vc3 : w6.cell? ⟨w.heap.size, 3, none⟩ = some (.int .i64 d) := (blk_cell V_6 3).trans rfl
  have Vcf := blk_free V_6
  have Xc0 : w6.cell? ⟨w1.heap.size, 0, none⟩ = some (.string s) := (blk_cell X_6 0).trans rfl
  have Xc1 : w6.cell? ⟨w1.heap.size, 1, none⟩ = some (.int .i64 a) := (blk_cell X_6 1).trans rfl
  have Xc2 : w6.cell? ⟨w1.heap.size, 2, none⟩ = some (.int .i64 b) := (blk_cell X_6 2).trans rfl
  have Xc3 : w6.cell? ⟨w1.heap.size, 3, none⟩ = some (.int .i64 c) := (blk_cell X_6 3).trans rfl
  have Xc4 : w6.cell? ⟨w1.heap.size, 4, none⟩ = some (.int .i64 d) := (blk_cell X_6 4).trans rfl
  have Xcf := blk_free X_6
  have Vl6 : w.heap.size < w6.heap.size := by omega
  have Xl6 : w1.heap.size < w6.heap.size := by omega
  go_wp2_with fail
  refine (takez_one _ _ s a b c d _ (by simp) (alloc_at _ _)).mono ?_
  rintro e w7 ⟨rfl, hb7⟩
  have hs7 := hb7.size
  try simp only [World.size_alloc, World.size_setCell] at hs7
  have V_7 : w7.heap[w.heap.size]? = some (.cells #[.int .i64 a, .int .i64 b, .int .i64 c, .int .i64 d] 29 (0, 0)) := below_at hb7 (by first | omega | (simp; done) | (simp; omega)) (by (repeat (first | (with_reducible assumption) | (with_reducible exact alloc_at _ _) | ((with_reducible apply alloc_at'); (simp; done)) | (with_reducible apply alloc_at_lt) | (with_reducible apply heap_drew_at) | (with_reducible apply heap_drewN_at) | (with_reducible apply heap_setCell_same) | ((with_reducible apply heap_set_ne); (first | omega | (dsimp only; omega) | (simp; done) | (simp; omega))) | (with_reducible apply setRow_at) | ((with_reducible apply setRow_ne); (first | omega | (dsimp only; omega) | (simp; done) | (simp; omega))))))
  have X_7 : w7.heap[w1.heap.size]? = some (.cells #[.string s, .int .i64 a, .int .i64 b, .int .i64 c, .int .i64 d] 31 (0, 0)) := below_at hb7 (by first | omega | (simp; done) | (simp; omega)) (by (repeat (first | (with_reducible assumption) | (with_reducible exact alloc_at _ _) | ((with_reducible apply alloc_at'); (simp; done)) | (with_reducible apply alloc_at_lt) | (with_reducible apply heap_drew_at) | (with_reducible apply heap_drewN_at) | (with_reducible apply heap_setCell_same) | ((with_reducible apply heap_set_ne); (first | omega | (dsimp only; omega) | (simp; done) | (simp; omega))) | (with_reducible apply setRow_at) | ((with_reducible apply setRow_ne); (first | omega | (dsimp only; omega) | (simp; done) | (simp; omega))))))
  have B7 : Below w.heap.size w w7 := Below.trans (by repeat (first | with_reducible assumption | with_reducible exact Below.refl _ _ | with_reducible refine Below.drew ?_ | with_reducible refine below_drewN ?_ _ | with_reducible refine below_alloc ?_ _ | with_reducible refine Below.alloc ?_ (by first | omega | (simp; done) | (simp; omega)) _ | with_reducible refine Below.setCell ?_ (by first | omega | (simp; done) | (simp; omega)) _ | with_reducible refine below_setRow ?_ (by first | omega | (simp; done) | (simp; omega)) _)) (hb7.mono (by first | omega | (simp; done) | (simp; omega)))
  clear hb7 V_6 X_6
  clear Vc0 Vc1 Vc2 Vc3 Vcf
  clear Xc0 Xc1 Xc2 Xc3 Xc4 Xcf
  have Vc0 : w7.cell? ⟨w.heap.size, 0, none⟩ = some (.int .i64 a) := (blk_cell V_7 0).trans rfl
  have Vc1 : w7.cell? ⟨w.heap.size, 1, none⟩ = some (.int .i64 b) := (blk_cell V_7 1).trans rfl
  have Vc2 : w7.cell? ⟨w.heap.size, 2, none⟩ = some (.int .i64 c) := (blk_cell V_7 2).trans rfl
  have Vc3 : w7.cell? ⟨w.heap.size, 3, none⟩ = some (.int .i64 d) := (blk_cell V_7 3).trans rfl
  have Vcf := blk_free V_7
  have Xc0 : w7.cell? ⟨w1.heap.size, 0, none⟩ = some (.string s) := (blk_cell X_7 0).trans rfl
  have Xc1 : w7.cell? ⟨w1.heap.size, 1, none⟩ = some (.int .i64 a) := (blk_cell X_7 1).trans rfl
  have Xc2 : w7.cell? ⟨w1.heap.size, 2, none⟩ = some (.int .i64 b) := (blk_cell X_7 2).trans rfl
  have Xc3 : w7.cell? ⟨w1.heap.size, 3, none⟩ = some (.int .i64 c) := (blk_cell X_7 3).trans rfl
  have Xc4 : w7.cell? ⟨w1.heap.size, 4, none⟩ = some (.int .i64 d) := (blk_cell X_7 4).trans rfl
  have Xcf := blk_free X_7
  have Vl7 : w.heap.size < w7.heap.size := by omega
  have Xl7 : w1.heap.size < w7.heap.size := by omega
  rw [hz]
  go_wp2_with fail
  refine (givez_one _ _ s a b c d _ (by simp) (alloc_at _ _)).mono ?_
  rintro e w8 ⟨rfl, hb8⟩
  have hs8 := hb8.size
  try simp only [World.size_alloc, World.size_setCell] at hs8
  have V_8 : w8.heap[w.heap.size]? = some (.cells #[.int .i64 a, .int .i64 b, .int .i64 c, .int .i64 d] 29 (0, 0)) := below_at hb8 (by first | omega | (simp; done) | (simp; omega)) (by (repeat (first | (with_reducible assumption) | (with_reducible exact alloc_at _ _) | ((with_reducible apply alloc_at'); (simp; done)) | (with_reducible apply alloc_at_lt) | (with_reducible apply heap_drew_at) | (with_reducible apply heap_drewN_at) | (with_reducible apply heap_setCell_same) | ((with_reducible apply heap_set_ne); (first | omega | (dsimp only; omega) | (simp; done) | (simp; omega))) | (with_reducible apply setRow_at) | ((with_reducible apply setRow_ne); (first | omega | (dsimp only; omega) | (simp; done) | (simp; omega))))))
  have X_8 : w8.heap[w1.heap.size]? = some (.cells #[.string s, .int .i64 a, .int .i64 b, .int .i64 c, .int .i64 d] 31 (0, 0)) := below_at hb8 (by first | omega | (simp; done) | (simp; omega)) (by (repeat (first | (with_reducible assumption) | (with_reducible exact alloc_at _ _) | ((with_reducible apply alloc_at'); (simp; done)) | (with_reducible apply alloc_at_lt) | (with_reducible apply heap_drew_at) | (with_reducible apply heap_drewN_at) | (with_reducible apply heap_setCell_same) | ((with_reducible apply heap_set_ne); (first | omega | (dsimp only; omega) | (simp; done) | (simp; omega))) | (with_reducible apply setRow_at) | ((with_reducible apply setRow_ne); (first | omega | (dsimp only; omega) | (simp; done) | (simp; omega))))))
  have B8 : Below w.heap.size w w8 := Below.trans (by repeat (first | with_reducible assumption | with_reducible exact Below.refl _ _ | with_reducible refine Below.drew ?_ | with_reducible refine below_drewN ?_ _ | with_reducible refine below_alloc ?_ _ | with_reducible refine Below.alloc ?_ (by first | omega | (simp; done) | (simp; omega)) _ | with_reducible refine Below.setCell ?_ (by first | omega | (simp; done) | (simp; omega)) _ | with_reducible refine below_setRow ?_ (by first | omega | (simp; done) | (simp; omega)) _)) (hb8.mono (by first | omega | (simp; done) | (simp; omega)))
  clear hb8 V_7 X_7
  clear Vc0 Vc1 Vc2 Vc3 Vcf
  clear Xc0 Xc1 Xc2 Xc3 Xc4 Xcf
  have Vc0 : w8.cell? ⟨w.heap.size, 0, none⟩ = some (.int .i64 a) := (blk_cell V_8 0).trans rfl
  have Vc1 : w8.cell? ⟨w.heap.size, 1, none⟩ = some (.int .i64 b) := (blk_cell V_8 1).trans rfl
  have Vc2 : w8.cell? ⟨w.heap.size, 2, none⟩ = some (.int .i64 c) := (blk_cell V_8 2).trans rfl
  have Vc3 : w8.cell? ⟨w.heap.size, 3, none⟩ = some (.int .i64 d) := (blk_cell V_8 3).trans rfl
  have Vcf := blk_free V_8
  have Xc0 : w8.cell? ⟨w1.heap.size, 0, none⟩ = some (.string s) := (blk_cell X_8 0).trans rfl
  have Xc1 : w8.cell? ⟨w1.heap.size, 1, none⟩ = some (.int .i64 a) := (blk_cell X_8 1).trans rfl
  have Xc2 : w8.cell? ⟨w1.heap.size, 2, none⟩ = some (.int .i64 b) := (blk_cell X_8 2).trans rfl
  have Xc3 : w8.cell? ⟨w1.heap.size, 3, none⟩ = some (.int .i64 c) := (blk_cell X_8 3).trans rfl
  have Xc4 : w8.cell? ⟨w1.heap.size, 4, none⟩ = some (.int .i64 d) := (blk_cell X_8 4).trans rfl
  have Xcf := blk_free X_8
  have Vl8 : w.heap.size < w8.heap.size := by omega
  have Xl8 : w1.heap.size < w8.heap.size := by omega
  rw [hz]
  go_wp2_with fail
  refine (takez_nil none 0 _).mono ?_
  rintro e w9 ⟨rfl, hb9⟩
  have hs9 := hb9.size
  try simp only [World.size_alloc, World.size_setCell] at hs9
  have V_9 : w9.heap[w.heap.size]? = some (.cells #[.int .i64 a, .int .i64 b, .int .i64 c, .int .i64 d] 29 (0, 0)) := below_at hb9 (by first | omega | (simp; done) | (simp; omega)) (by (repeat (first | (with_reducible assumption) | (with_reducible exact alloc_at _ _) | ((with_reducible apply alloc_at'); (simp; done)) | (with_reducible apply alloc_at_lt) | (with_reducible apply heap_drew_at) | (with_reducible apply heap_drewN_at) | (with_reducible apply heap_setCell_same) | ((with_reducible apply heap_set_ne); (first | omega | (dsimp only; omega) | (simp; done) | (simp; omega))) | (with_reducible apply setRow_at) | ((with_reducible apply setRow_ne); (first | omega | (dsimp only; omega) | (simp; done) | (simp; omega))))))
  have X_9 : w9.heap[w1.heap.size]? = some (.cells #[.string s, .int .i64 a, .int .i64 b, .int .i64 c, .int .i64 d] 31 (0, 0)) := below_at hb9 (by first | omega | (simp; done) | (simp; omega)) (by (repeat (first | (with_reducible assumption) | (with_reducible exact alloc_at _ _) | ((with_reducible apply alloc_at'); (simp; done)) | (with_reducible apply alloc_at_lt) | (with_reducible apply heap_drew_at) | (with_reducible apply heap_drewN_at) | (with_reducible apply heap_setCell_same) | ((with_reducible apply heap_set_ne); (first | omega | (dsimp only; omega) | (simp; done) | (simp; omega))) | (with_reducible apply setRow_at) | ((with_reducible apply setRow_ne); (first | omega | (dsimp only; omega) | (simp; done) | (simp; omega))))))
  have B9 : Below w.heap.size w w9 := Below.trans (by repeat (first | with_reducible assumption | with_reducible exact Below.refl _ _ | with_reducible refine Below.drew ?_ | with_reducible refine below_drewN ?_ _ | with_reducible refine below_alloc ?_ _ | with_reducible refine Below.alloc ?_ (by first | omega | (simp; done) | (simp; omega)) _ | with_reducible refine Below.setCell ?_ (by first | omega | (simp; done) | (simp; omega)) _ | with_reducible refine below_setRow ?_ (by first | omega | (simp; done) | (simp; omega)) _)) (hb9.mono (by first | omega | (simp; done) | (simp; omega)))
  clear hb9 V_8 X_8
  clear Vc0 Vc1 Vc2 Vc3 Vcf
  clear Xc0 Xc1 Xc2 Xc3 Xc4 Xcf
  have Vc0 : w9.cell? ⟨w.heap.size, 0, none⟩ = some (.int .i64 a) := (blk_cell V_9 0).trans rfl
  have Vc1 : w9.cell? ⟨w.heap.size, 1, none⟩ = some (.int .i64 b) := (blk_cell V_9 1).trans rfl
  have Vc2 : w9.cell? ⟨w.heap.size, 2, none⟩ = some (.int .i64 c) := (blk_cell V_9 2).trans rfl
  have Vc3 : w9.cell? ⟨w.heap.size, 3, none⟩ = some (.int .i64 d) := (blk_cell V_9 3).trans rfl
  have Vcf := blk_free V_9
  have Xc0 : w9.cell? ⟨w1.heap.size, 0, none⟩ = some (.string s) := (blk_cell X_9 0).trans rfl
  have Xc1 : w9.cell? ⟨w1.heap.size, 1, none⟩ = some (.int .i64 a) := (blk_cell X_9 1).trans rfl
  have Xc2 : w9.cell? ⟨w1.heap.size, 2, none⟩ = some (.int .i64 b) := (blk_cell X_9 2).trans rfl
  have Xc3 : w9.cell? ⟨w1.heap.size, 3, none⟩ = some (.int .i64 c) := (blk_cell X_9 3).trans rfl
  have Xc4 : w9.cell? ⟨w1.heap.size, 4, none⟩ = some (.int .i64 d) := (blk_cell X_9 4).trans rfl
  have Xcf := blk_free X_9
  have Vl9 : w.heap.size < w9.heap.size := by omega
  have Xl9 : w1.heap.size < w9.heap.size := by omega
  go_wp2_with fail
  refine (givez_nil none 0 _).mono ?_
  rintro e w10 ⟨rfl, hb10⟩
  have hs10 := hb10.size
  try simp only [World.size_alloc, World.size_setCell] at hs10
  have V_10 : w10.heap[w.heap.size]? = some (.cells #[.int .i64 a, .int .i64 b, .int .i64 c, .int .i64 d] 29 (0, 0)) := below_at hb10 (by first | omega | (simp; done) | (simp; omega)) (by (repeat (first | (with_reducible assumption) | (with_reducible exact alloc_at _ _) | ((with_reducible apply alloc_at'); (simp; done)) | (with_reducible apply alloc_at_lt) | (with_reducible apply heap_drew_at) | (with_reducible apply heap_drewN_at) | (with_reducible apply heap_setCell_same) | ((with_reducible apply heap_set_ne); (first | omega | (dsimp only; omega) | (simp; done) | (simp; omega))) | (with_reducible apply setRow_at) | ((with_reducible apply setRow_ne); (first | omega | (dsimp only; omega) | (simp; done) | (simp; omega))))))
  have X_10 : w10.heap[w1.heap.size]? = some (.cells #[.string s, .int .i64 a, .int .i64 b, .int .i64 c, .int .i64 d] 31 (0, 0)) := below_at hb10 (by first | omega | (simp; done) | (simp; omega)) (by (repeat (first | (with_reducible assumption) | (with_reducible exact alloc_at _ _) | ((with_reducible apply alloc_at'); (simp; done)) | (with_reducible apply alloc_at_lt) | (with_reducible apply heap_drew_at) | (with_reducible apply heap_drewN_at) | (with_reducible apply heap_setCell_same) | ((with_reducible apply heap_set_ne); (first | omega | (dsimp only; omega) | (simp; done) | (simp; omega))) | (with_reducible apply setRow_at) | ((with_reducible apply setRow_ne); (first | omega | (dsimp only; omega) | (simp; done) | (simp; omega))))))
  have B10 : Below w.heap.size w w10 := Below.trans (by repeat (first | with_reducible assumption | with_reducible exact Below.refl _ _ | with_reducible refine Below.drew ?_ | with_reducible refine below_drewN ?_ _ | with_reducible refine below_alloc ?_ _ | with_reducible refine Below.alloc ?_ (by first | omega | (simp; done) | (simp; omega)) _ | with_reducible refine Below.setCell ?_ (by first | omega | (simp; done) | (simp; omega)) _ | with_reducible refine below_setRow ?_ (by first | omega | (simp; done) | (simp; omega)) _)) (hb10.mono (by first | omega | (simp; done) | (simp; omega)))
  clear hb10 V_9 X_9
  clear Vc0 Vc1 Vc2 Vc3 Vcf
  clear Xc0 Xc1 Xc2 Xc3 Xc4 Xcf
  have Vc0 : w10.cell? ⟨w.heap.size, 0, none⟩ = some (.int .i64 a) := (blk_cell V_10 0).trans rfl
  have Vc1 : w10.cell? ⟨w.heap.size, 1, none⟩ = some (.int .i64 b) := (blk_cell V_10 1).trans rfl
  have Vc2 : w10.cell? ⟨w.heap.size, 2, none⟩ = some (.int .i64 c) := (blk_cell V_10 2).trans rfl
  have Vc3 : w10.cell? ⟨w.heap.size, 3, none⟩ = some (.int .i64 d) := (blk_cell V_10 3).trans rfl
  have Vcf := blk_free V_10
  have Xc0 : w10.cell? ⟨w1.heap.size, 0, none⟩ = some (.string s) := (blk_cell X_10 0).trans rfl
  have Xc1 : w10.cell? ⟨w1.heap.size, 1, none⟩ = some (.int .i64 a) := (blk_cell X_10 1).trans rfl
  have Xc2 : w10.cell? ⟨w1.heap.size, 2, none⟩ = some (.int .i64 b) := (blk_cell X_10 2).trans rfl
  have Xc3 : w10.cell? ⟨w1.heap.size, 3, none⟩ = some (.int .i64 c) := (blk_cell X_10 3).trans rfl
  have Xc4 : w10.cell? ⟨w1.heap.size, 4, none⟩ = some (.int .i64 d) := (blk_cell X_10 4).trans rfl
  have Xcf := blk_free X_10
  have Vl10 : w.heap.size < w10.heap.size := by omega
  have Xl10 : w1.heap.size < w10.heap.size := by omega
  go_wp2_with fail
  refine (namesz _).mono ?_
  rintro e w11 ⟨rfl, hb11⟩
  have hs11 := hb11.size
  try simp only [World.size_alloc, World.size_setCell] at hs11
  have V_11 : w11.heap[w.heap.size]? = some (.cells #[.int .i64 a, .int .i64 b, .int .i64 c, .int .i64 d] 29 (0, 0)) := below_at hb11 (by first | omega | (simp; done) | (simp; omega)) (by (repeat (first | (with_reducible assumption) | (with_reducible exact alloc_at _ _) | ((with_reducible apply alloc_at'); (simp; done)) | (with_reducible apply alloc_at_lt) | (with_reducible apply heap_drew_at) | (with_reducible apply heap_drewN_at) | (with_reducible apply heap_setCell_same) | ((with_reducible apply heap_set_ne); (first | omega | (dsimp only; omega) | (simp; done) | (simp; omega))) | (with_reducible apply setRow_at) | ((with_reducible apply setRow_ne); (first | omega | (dsimp only; omega) | (simp; done) | (simp; omega))))))
  have X_11 : w11.heap[w1.heap.size]? = some (.cells #[.string s, .int .i64 a, .int .i64 b, .int .i64 c, .int .i64 d] 31 (0, 0)) := below_at hb11 (by first | omega | (simp; done) | (simp; omega)) (by (repeat (first | (with_reducible assumption) | (with_reducible exact alloc_at _ _) | ((with_reducible apply alloc_at'); (simp; done)) | (with_reducible apply alloc_at_lt) | (with_reducible apply heap_drew_at) | (with_reducible apply heap_drewN_at) | (with_reducible apply heap_setCell_same) | ((with_reducible apply heap_set_ne); (first | omega | (dsimp only; omega) | (simp; done) | (simp; omega))) | (with_reducible apply setRow_at) | ((with_reducible apply setRow_ne); (first | omega | (dsimp only; omega) | (simp; done) | (simp; omega))))))
  have B11 : Below w.heap.size w w11 := Below.trans (by repeat (first | with_reducible assumption | with_reducible exact Below.refl _ _ | with_reducible refine Below.drew ?_ | with_reducible refine below_drewN ?_ _ | with_reducible refine below_alloc ?_ _ | with_reducible refine Below.alloc ?_ (by first | omega | (simp; done) | (simp; omega)) _ | with_reducible refine Below.setCell ?_ (by first | omega | (simp; done) | (simp; omega)) _ | with_reducible refine below_setRow ?_ (by first | omega | (simp; done) | (simp; omega)) _)) (hb11.mono (by first | omega | (simp; done) | (simp; omega)))
  clear hb11 V_10 X_10
  clear Vc0 Vc1 Vc2 Vc3 Vcf
  clear Xc0 Xc1 Xc2 Xc3 Xc4 Xcf
  have Vc0 : w11.cell? ⟨w.heap.size, 0, none⟩ = some (.int .i64 a) := (blk_cell V_11 0).trans rfl
  have Vc1 : w11.cell? ⟨w.heap.size, 1, none⟩ = some (.int .i64 b) := (blk_cell V_11 1).trans rfl
  have Vc2 : w11.cell? ⟨w.heap.size, 2, none⟩ = some (.int .i64 c) := (blk_cell V_11 2).trans rfl
  have Vc3 : w11.cell? ⟨w.heap.size, 3, none⟩ = some (.int .i64 d) := (blk_cell V_11 3).trans rfl
  have Vcf := blk_free V_11
  have Xc0 : w11.cell? ⟨w1.heap.size, 0, none⟩ = some (.string s) := (blk_cell X_11 0).trans rfl
  have Xc1 : w11.cell? ⟨w1.heap.size, 1, none⟩ = some (.int .i64 a) := (blk_cell X_11 1).trans rfl
  have Xc2 : w11.cell? ⟨w1.heap.size, 2, none⟩ = some (.int .i64 b) := (blk_cell X_11 2).trans rfl
  have Xc3 : w11.cell? ⟨w1.heap.size, 3, none⟩ = some (.int .i64 c) := (blk_cell X_11 3).trans rfl
  have Xc4 : w11.cell? ⟨w1.heap.size, 4, none⟩ = some (.int .i64 d) := (blk_cell X_11 4).trans rfl
  have Xcf := blk_free X_11
  have Vl11 : w.heap.size < w11.heap.size := by omega
  have Xl11 : w1.heap.size < w11.heap.size := by omega
  go_upto_region 13 with fail
  refine wp_name ?_
  intro wn hwn
  have LEDN : LedB w.heap.size wn w11.heap.size 0 noA := ⟨by omega, inv_none, by omega, none, ⟨by rw [hwn]; exact (by (repeat (first | (with_reducible assumption) | (with_reducible exact alloc_at _ _) | ((with_reducible apply alloc_at'); (simp; done)) | (with_reducible apply alloc_at_lt) | (with_reducible apply heap_drew_at) | (with_reducible apply heap_drewN_at) | (with_reducible apply heap_setCell_same) | ((with_reducible apply heap_set_ne); (first | omega | (dsimp only; omega) | (simp; done) | (simp; omega))) | (with_reducible apply setRow_at) | ((with_reducible apply setRow_ne); (first | omega | (dsimp only; omega) | (simp; done) | (simp; omega)))))), rfl, rfl⟩, fun b e => by cases e⟩
  have hVn : wn.heap[w.heap.size]? = some (.cells #[.int .i64 a, .int .i64 b, .int .i64 c, .int .i64 d] 29 (0, 0)) := by rw [hwn]; exact (by (repeat (first | (with_reducible assumption) | (with_reducible exact alloc_at _ _) | ((with_reducible apply alloc_at'); (simp; done)) | (with_reducible apply alloc_at_lt) | (with_reducible apply heap_drew_at) | (with_reducible apply heap_drewN_at) | (with_reducible apply heap_setCell_same) | ((with_reducible apply heap_set_ne); (first | omega | (dsimp only; omega) | (simp; done) | (simp; omega))) | (with_reducible apply setRow_at) | ((with_reducible apply setRow_ne); (first | omega | (dsimp only; omega) | (simp; done) | (simp; omega))))))
  have hXn : wn.heap[w1.heap.size]? = some (.cells #[.string s, .int .i64 a, .int .i64 b, .int .i64 c, .int .i64 d] 31 (0, 0)) := by rw [hwn]; exact (by (repeat (first | (with_reducible assumption) | (with_reducible exact alloc_at _ _) | ((with_reducible apply alloc_at'); (simp; done)) | (with_reducible apply alloc_at_lt) | (with_reducible apply heap_drew_at) | (with_reducible apply heap_drewN_at) | (with_reducible apply heap_setCell_same) | ((with_reducible apply heap_set_ne); (first | omega | (dsimp only; omega) | (simp; done) | (simp; omega))) | (with_reducible apply setRow_at) | ((with_reducible apply setRow_ne); (first | omega | (dsimp only; omega) | (simp; done) | (simp; omega))))))
  have hBn : Below w.heap.size w wn := by rw [hwn]; exact (by repeat (first | with_reducible assumption | with_reducible exact Below.refl _ _ | with_reducible refine Below.drew ?_ | with_reducible refine below_drewN ?_ _ | with_reducible refine below_alloc ?_ _ | with_reducible refine Below.alloc ?_ (by first | omega | (simp; done) | (simp; omega)) _ | with_reducible refine Below.setCell ?_ (by first | omega | (simp; done) | (simp; omega)) _ | with_reducible refine below_setRow ?_ (by first | omega | (simp; done) | (simp; omega)) _))
  have szn : w11.heap.size < wn.heap.size := LEDN.lt
  have kV : w.heap.size ≠ w11.heap.size := by omega
  have kX : w1.heap.size ≠ w11.heap.size := by omega
  have HLN := hid LEDN
  clear hwn LEDN Vc0 Vc1 Vc2 Vc3 Vcf Xc0 Xc1 Xc2 Xc3 Xc4 Xcf V_11 X_11
  have hOp : ∀ W, w.heap.size ≤ W.heap.size → LedB w.heap.size W w11.heap.size 0 noA → Calls Try.prog 11 #[.pointer (some ⟨w11.heap.size, 0, none⟩), .string s, .agg #[.int .i64 a, .int .i64 b, .int .i64 c, .int .i64 d]] W fun e w' => e = .returned (.int .i64 4) ∧ LedB w.heap.size w' w11.heap.size 0 noA ∧ Below w.heap.size W w' ∧ KeptC W w' w11.heap.size := fun W h1 h2 => by
    have h := open_b w.heap.size w11.heap.size 0 noA s a b c d W h1 h2 HS.out
    obtain ⟨g1, g2, g3⟩ := open_new_z false s (a, b, c, d) hv
    rw [g1, g2, g3] at h
    exact h
  have hTk : ∀ W g, w.heap.size ≤ W.heap.size → LedB w.heap.size W w11.heap.size 0 noA → W.heap[g]? = some (.cells #[.string s, .int .i64 a, .int .i64 b, .int .i64 c, .int .i64 d] 31 (0, 0)) → Calls Try.prog 12 #[.pointer (some ⟨w11.heap.size, 0, none⟩), .slice (some ⟨g, 0, none⟩) 1 1] W fun e w' => e = .returned (.int .i64 4) ∧ Below w.heap.size W w' ∧ KeptC W w' w11.heap.size := fun W g h1 h2 h3 => by
    have h := take_b w.heap.size w11.heap.size _ _ (some ⟨g, 0, none⟩) 1 1 [(s, a, b, c, d)] W h1 h2 (by unfold maxLen; simp) (holdsE_one HS.out h3)
    rw [show takeE noA [(s, a, b, c, d)] = 4 from take_z_false s (a, b, c, d) hv] at h
    exact h.mono fun _ _ ⟨x1, _, x3, x4⟩ => ⟨x1, x3, x4⟩
  skip
  go_region_held3 (fun w' => Below w.heap.size w w' ∧ w'.heap[w.heap.size]? = some (.cells #[.int .i64 a, .int .i64 b, .int .i64 c, .int .i64 d] 29 (0, 0)) ∧ w'.heap[w1.heap.size]? = some (.cells #[.string s, .int .i64 a, .int .i64 b, .int .i64 c, .int .i64 d] 31 (0, 0)) ∧ w'.cell? ⟨w.heap.size, 0, none⟩ = some (.int .i64 a) ∧ w'.cell? ⟨w.heap.size, 1, none⟩ = some (.int .i64 b) ∧ w'.cell? ⟨w.heap.size, 2, none⟩ = some (.int .i64 c) ∧ w'.cell? ⟨w.heap.size, 3, none⟩ = some (.int .i64 d) ∧ w'.cell? ⟨w1.heap.size, 0, none⟩ = some (.string s) ∧ w'.cell? ⟨w1.heap.size, 1, none⟩ = some (.int .i64 a) ∧ w'.cell? ⟨w1.heap.size, 2, none⟩ = some (.int .i64 b) ∧ w'.cell? ⟨w1.heap.size, 3, none⟩ = some (.int .i64 c) ∧ w'.cell? ⟨w1.heap.size, 4, none⟩ = some (.int .i64 d)) (((try go_split_ands); (try dsimp only); refine keep_two (by first | assumption | exact Below.drew (by assumption) | exact below_allocB (by omega) (by assumption) _ ) (by first | assumption | (apply heap_drew_at; assumption) | (apply alloc_at_lt; assumption) | (apply alloc_at_lt; apply heap_drew_at; assumption)) (by first | assumption | (apply heap_drew_at; assumption) | (apply alloc_at_lt; assumption) | (apply alloc_at_lt; apply heap_drew_at; assumption)))) (first | (go_at_call 11; refine (hOp _ (by first | (simp only [heap_drew]; omega) | (simp; omega) | omega) (HLN.out.below (by first | exact Below.refl _ _ | exact (Below.refl _ _).drew))).mono ?_; rintro e w91 ⟨rfl, hL91, hB91, hK91⟩; have hV91 : w91.heap[w.heap.size]? = some (.cells #[.int .i64 a, .int .i64 b, .int .i64 c, .int .i64 d] 29 (0, 0)) := hK91 _ _ _ _ kV (by first | assumption | (apply heap_drew_at; assumption) | (apply alloc_at_lt; assumption) | (apply alloc_at_lt; apply heap_drew_at; assumption)); have hX91 : w91.heap[w1.heap.size]? = some (.cells #[.string s, .int .i64 a, .int .i64 b, .int .i64 c, .int .i64 d] 31 (0, 0)) := hK91 _ _ _ _ kX (by first | assumption | (apply heap_drew_at; assumption) | (apply alloc_at_lt; assumption) | (apply alloc_at_lt; apply heap_drew_at; assumption)); have hBB91 := Below.trans (by first | assumption | exact Below.drew (by assumption) | exact below_allocB (by omega) (by assumption) _ ) hB91; have hsz91 := hBB91.size) | (go_at_call 22; refine (hF _).mono ?_; rintro e w92 ⟨rfl, hb92⟩; have hV92 : w92.heap[w.heap.size]? = some (.cells #[.int .i64 a, .int .i64 b, .int .i64 c, .int .i64 d] 29 (0, 0)) := below_atW hb92 (by first | assumption | (apply heap_drew_at; assumption) | (apply alloc_at_lt; assumption) | (apply alloc_at_lt; apply heap_drew_at; assumption)); have hX92 : w92.heap[w1.heap.size]? = some (.cells #[.string s, .int .i64 a, .int .i64 b, .int .i64 c, .int .i64 d] 31 (0, 0)) := below_atW hb92 (by first | assumption | (apply heap_drew_at; assumption) | (apply alloc_at_lt; assumption) | (apply alloc_at_lt; apply heap_drew_at; assumption)); have hBB92 := below_call (by first | assumption | exact Below.drew (by assumption) | exact below_allocB (by omega) (by assumption) _ ) hb92; have hsz92 := hBB92.size) | (go_at_call 12; refine (hTk _ _ (by first | (simp only [heap_drew]; omega) | (simp; omega) | omega) (LedB.below (by assumption) (by first | assumption | exact below_alloc (by assumption) _ | exact (below_alloc (Below.refl _ _) _))) (alloc_at _ _)).mono ?_; rintro e w93 ⟨rfl, hB93, hK93⟩; have hV93 : w93.heap[w.heap.size]? = some (.cells #[.int .i64 a, .int .i64 b, .int .i64 c, .int .i64 d] 29 (0, 0)) := hK93 _ _ _ _ kV (by first | assumption | (apply heap_drew_at; assumption) | (apply alloc_at_lt; assumption) | (apply alloc_at_lt; apply heap_drew_at; assumption)); have hX93 : w93.heap[w1.heap.size]? = some (.cells #[.string s, .int .i64 a, .int .i64 b, .int .i64 c, .int .i64 d] 31 (0, 0)) := hK93 _ _ _ _ kX (by first | assumption | (apply heap_drew_at; assumption) | (apply alloc_at_lt; assumption) | (apply alloc_at_lt; apply heap_drew_at; assumption)); have hBB93 := Below.trans (by first | assumption | exact Below.drew (by assumption) | exact below_allocB (by omega) (by assumption) _ ) hB93; have hsz93 := hBB93.size))
  all_goals
    go_wp2
    go_ret
    exact ⟨by first | rfl | simp, by assumption⟩
theorem ledgerNil_any (s : ByteArray) (a b c d : Int) (w : World) (hs : s.size ≤ maxLen) :
    Calls Try.prog 8 #[.string s, .agg #[.int .i64 a, .int .i64 b, .int .i64 c, .int .i64 d]] w fun e w' => e = .returned (.bool true) ∧ Below w.heap.size w w' := by
  cases hv : okV (a, b, c, d) with
  | true => exact ledgerNil_true s a b c d w hs hv
  | false => exact ledgerNil_false s a b c d w hs hv
end Go.Proofs.Ytobgolceggeogaa
