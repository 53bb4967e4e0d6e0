/- Contracts of the reference's Take of chapter 13 at one entry. -/
import Derived.Test.YtobgolceggeogaaRefN
namespace Go.Proofs.Ytobgolceggeogaa
open Go.RowKit
set_option maxRecDepth 20000 in
set_option maxHeartbeats 4000000 in
theorem rsum_one0 (p cap : Nat) (s : ByteArray) (a b c d : Int) (w : World) (hp : w.heap[p]? = some (.cells #[.string s, .int .i64 a, .int .i64 b, .int .i64 c, .int .i64 d] 42 (0, 0))) (hv : 0 ≤ a ∧ a ≤ 1099511627776) :
    Calls Try.prog 34 #[.slice (some ⟨p, 0, none⟩) 1 cap, .string s, .int .i64 0] w fun e w' => e = .returned (.int .i64 a) ∧ Below w.heap.size w w' := by
  obtain ⟨hv0, hv1⟩ := hv
  have b0 : w.cell? ⟨p, 0, none⟩ = some (.string s) := (blk_cell hp 0).trans rfl
  have b1 : w.cell? ⟨p, 1, none⟩ = some (.int .i64 a) := (blk_cell hp 1).trans rfl
  have b2 : w.cell? ⟨p, 2, none⟩ = some (.int .i64 b) := (blk_cell hp 2).trans rfl
  have b3 : w.cell? ⟨p, 3, none⟩ = some (.int .i64 c) := (blk_cell hp 3).trans rfl
  have b4 : w.cell? ⟨p, 4, none⟩ = some (.int .i64 d) := (blk_cell hp 4).trans rfl
  have hpl := lt_of_at hp
  clear hp
  go_enter Try.func34, Try.ntmps34
  go_wp2
  refine wp_loop_rounds 2 ?_
  rw [rounds_succ]
  go_wp2
  rw [rounds_succ]
  go_wp2
  go_ret
  exact ⟨by first | rfl | simp, Below.refl _ _⟩
set_option maxRecDepth 20000 in
set_option maxHeartbeats 4000000 in
theorem rsum_one1 (p cap : Nat) (s : ByteArray) (a b c d : Int) (w : World) (hp : w.heap[p]? = some (.cells #[.string s, .int .i64 a, .int .i64 b, .int .i64 c, .int .i64 d] 42 (0, 0))) (hv : 0 ≤ b ∧ b ≤ 1099511627776) :
    Calls Try.prog 34 #[.slice (some ⟨p, 0, none⟩) 1 cap, .string s, .int .i64 1] w fun e w' => e = .returned (.int .i64 b) ∧ Below w.heap.size w w' := by
  obtain ⟨hv0, hv1⟩ := hv
  have b0 : w.cell? ⟨p, 0, none⟩ = some (.string s) := (blk_cell hp 0).trans rfl
  have b1 : w.cell? ⟨p, 1, none⟩ = some (.int .i64 a) := (blk_cell hp 1).trans rfl
  have b2 : w.cell? ⟨p, 2, none⟩ = some (.int .i64 b) := (blk_cell hp 2).trans rfl
  have b3 : w.cell? ⟨p, 3, none⟩ = some (.int .i64 c) := (blk_cell hp 3).trans rfl
  have b4 : w.cell? ⟨p, 4, none⟩ = some (.int .i64 d) := (blk_cell hp 4).trans rfl
  have hpl := lt_of_at hp
  clear hp
  go_enter Try.func34, Try.ntmps34
  go_wp2
  refine wp_loop_rounds 2 ?_
  rw [rounds_succ]
  go_wp2
  rw [rounds_succ]
  go_wp2
  go_ret
  exact ⟨by first | rfl | simp, Below.refl _ _⟩
set_option maxRecDepth 20000 in
set_option maxHeartbeats 4000000 in
theorem rsum_one2 (p cap : Nat) (s : ByteArray) (a b c d : Int) (w : World) (hp : w.heap[p]? = some (.cells #[.string s, .int .i64 a, .int .i64 b, .int .i64 c, .int .i64 d] 42 (0, 0))) (hv : 0 ≤ c ∧ c ≤ 1099511627776) :
    Calls Try.prog 34 #[.slice (some ⟨p, 0, none⟩) 1 cap, .string s, .int .i64 2] w fun e w' => e = .returned (.int .i64 c) ∧ Below w.heap.size w w' := by
  obtain ⟨hv0, hv1⟩ := hv
  have b0 : w.cell? ⟨p, 0, none⟩ = some (.string s) := (blk_cell hp 0).trans rfl
  have b1 : w.cell? ⟨p, 1, none⟩ = some (.int .i64 a) := (blk_cell hp 1).trans rfl
  have b2 : w.cell? ⟨p, 2, none⟩ = some (.int .i64 b) := (blk_cell hp 2).trans rfl
  have b3 : w.cell? ⟨p, 3, none⟩ = some (.int .i64 c) := (blk_cell hp 3).trans rfl
  have b4 : w.cell? ⟨p, 4, none⟩ = some (.int .i64 d) := (blk_cell hp 4).trans rfl
  have hpl := lt_of_at hp
  clear hp
  go_enter Try.func34, Try.ntmps34
  go_wp2
  refine wp_loop_rounds 2 ?_
  rw [rounds_succ]
  go_wp2
  rw [rounds_succ]
  go_wp2
  go_ret
  exact ⟨by first | rfl | simp, Below.refl _ _⟩
set_option maxRecDepth 20000 in
set_option maxHeartbeats 4000000 in
theorem rsum_one3 (p cap : Nat) (s : ByteArray) (a b c d : Int) (w : World) (hp : w.heap[p]? = some (.cells #[.string s, .int .i64 a, .int .i64 b, .int .i64 c, .int .i64 d] 42 (0, 0))) (hv : 0 ≤ d ∧ d ≤ 1099511627776) :
    Calls Try.prog 34 #[.slice (some ⟨p, 0, none⟩) 1 cap, .string s, .int .i64 3] w fun e w' => e = .returned (.int .i64 d) ∧ Below w.heap.size w w' := by
  obtain ⟨hv0, hv1⟩ := hv
  have b0 : w.cell? ⟨p, 0, none⟩ = some (.string s) := (blk_cell hp 0).trans rfl
  have b1 : w.cell? ⟨p, 1, none⟩ = some (.int .i64 a) := (blk_cell hp 1).trans rfl
  have b2 : w.cell? ⟨p, 2, none⟩ = some (.int .i64 b) := (blk_cell hp 2).trans rfl
  have b3 : w.cell? ⟨p, 3, none⟩ = some (.int .i64 c) := (blk_cell hp 3).trans rfl
  have b4 : w.cell? ⟨p, 4, none⟩ = some (.int .i64 d) := (blk_cell hp 4).trans rfl
  have hpl := lt_of_at hp
  clear hp
  go_enter Try.func34, Try.ntmps34
  go_wp2
  refine wp_loop_rounds 2 ?_
  rw [rounds_succ]
  go_wp2
  rw [rounds_succ]
  go_wp2
  go_ret
  exact ⟨by first | rfl | simp, Below.refl _ _⟩
set_option maxRecDepth 20000 in
set_option maxHeartbeats 4000000 in
theorem rwrong_form (B R : Nat) (v : Value) (l : List RA) (s : ByteArray) (a b c d : Int) (p cap : Nat) (w : World) (hR : RefL B w R v l) (hm : l.length ≤ 100000) (hp : w.heap[p]? = some (.cells #[.string s, .int .i64 a, .int .i64 b, .int .i64 c, .int .i64 d] 42 (0, 0))) (hv : okV (a, b, c, d) = false) :
    Calls Try.prog 33 #[.pointer (some ⟨R, 0, none⟩), .slice (some ⟨p, 0, none⟩) 1 cap] w fun e w' => e = .returned (.int .i64 4) ∧ Below w.heap.size w w' := by
  have hF : ∀ W, Calls Try.prog 22 #[.agg #[.int .i64 a, .int .i64 b, .int .i64 c, .int .i64 d]] W fun e w' => e = .returned (.bool false) ∧ Below W.heap.size W w' := fun W => by have h := rformed_any a b c d W; rw [show formedB a b c d = false from hv] at h; exact h
  have b0 : w.cell? ⟨p, 0, none⟩ = some (.string s) := (blk_cell hp 0).trans rfl
  have b1 : w.cell? ⟨p, 1, none⟩ = some (.int .i64 a) := (blk_cell hp 1).trans rfl
  have b2 : w.cell? ⟨p, 2, none⟩ = some (.int .i64 b) := (blk_cell hp 2).trans rfl
  have b3 : w.cell? ⟨p, 3, none⟩ = some (.int .i64 c) := (blk_cell hp 3).trans rfl
  have b4 : w.cell? ⟨p, 4, none⟩ = some (.int .i64 d) := (blk_cell hp 4).trans rfl
  have hpl := lt_of_at hp
  go_enter Try.func33, Try.ntmps33
  go_wp2
  refine wp_loop_rounds 1 ?_
  rw [rounds_succ]
  go_wp2_with fail
  refine (hF _).mono ?_
  rintro e w1 ⟨rfl, hb1⟩
  go_wp2
  go_ret
  exact ⟨rfl, hb1⟩
set_option maxRecDepth 20000 in
set_option maxHeartbeats 4000000 in
theorem rwrong_none (B R : Nat) (v : Value) (l : List RA) (s : ByteArray) (a b c d : Int) (p cap : Nat) (w : World) (hR : RefL B w R v l) (hm : l.length ≤ 100000) (hp : w.heap[p]? = some (.cells #[.string s, .int .i64 a, .int .i64 b, .int .i64 c, .int .i64 d] 42 (0, 0))) (hv : okV (a, b, c, d) = true) (hk : findI l s = -1) :
    Calls Try.prog 33 #[.pointer (some ⟨R, 0, none⟩), .slice (some ⟨p, 0, none⟩) 1 cap] w fun e w' => e = .returned (.int .i64 3) ∧ Below w.heap.size w w' := by
  have hF : ∀ W, Calls Try.prog 22 #[.agg #[.int .i64 a, .int .i64 b, .int .i64 c, .int .i64 d]] W fun e w' => e = .returned (.bool true) ∧ Below W.heap.size W w' := fun W => by have h := rformed_any a b c d W; rw [show formedB a b c d = true from hv] at h; exact h
  have b0 : w.cell? ⟨p, 0, none⟩ = some (.string s) := (blk_cell hp 0).trans rfl
  have b1 : w.cell? ⟨p, 1, none⟩ = some (.int .i64 a) := (blk_cell hp 1).trans rfl
  have b2 : w.cell? ⟨p, 2, none⟩ = some (.int .i64 b) := (blk_cell hp 2).trans rfl
  have b3 : w.cell? ⟨p, 3, none⟩ = some (.int .i64 c) := (blk_cell hp 3).trans rfl
  have b4 : w.cell? ⟨p, 4, none⟩ = some (.int .i64 d) := (blk_cell hp 4).trans rfl
  have hpl := lt_of_at hp
  go_enter Try.func33, Try.ntmps33
  go_wp2
  refine wp_loop_rounds 2 ?_
  rw [rounds_succ]
  go_wp2_with fail
  refine (hF _).mono ?_
  rintro e w1 ⟨rfl, hb1⟩
  have hs1 := hb1.size
  have hp1 := below_at hb1 hpl hp
  have R1 := hR.below hb1
  have hfi := rfind_any B R v l s w1 R1 hm
  rw [hk] at hfi
  have e0 : w1.cell? ⟨p, 0, none⟩ = some (.string s) := (blk_cell hp1 0).trans rfl
  have e1 : w1.cell? ⟨p, 1, none⟩ = some (.int .i64 a) := (blk_cell hp1 1).trans rfl
  have e2 : w1.cell? ⟨p, 2, none⟩ = some (.int .i64 b) := (blk_cell hp1 2).trans rfl
  have e3 : w1.cell? ⟨p, 3, none⟩ = some (.int .i64 c) := (blk_cell hp1 3).trans rfl
  have e4 : w1.cell? ⟨p, 4, none⟩ = some (.int .i64 d) := (blk_cell hp1 4).trans rfl
  have hpl1 := lt_of_at hp1
  clear b0 b1 b2 b3 b4
  go_wp2
  rw [rounds_succ]
  go_wp2
  refine wp_loop_rounds 1 ?_
  rw [rounds_succ]
  go_wp2_with fail
  refine hfi.mono ?_
  rintro e w2 ⟨rfl, hb2⟩
  have hs2 := hb2.size
  go_wp2
  go_ret
  exact ⟨rfl, hb1.trans (hb2.mono hs1)⟩
set_option maxRecDepth 20000 in
set_option maxHeartbeats 4000000 in
theorem rwrong_ok (B R : Nat) (v : Value) (l : List RA) (s : ByteArray) (a b c d : Int) (p cap : Nat) (w : World) (hR : RefL B w R v l) (hm : l.length ≤ 100000) (hp : w.heap[p]? = some (.cells #[.string s, .int .i64 a, .int .i64 b, .int .i64 c, .int .i64 d] 42 (0, 0))) (hv : okV (a, b, c, d) = true) (k : Nat) (hk : findI l s = k) :
    Calls Try.prog 33 #[.pointer (some ⟨R, 0, none⟩), .slice (some ⟨p, 0, none⟩) 1 cap] w fun e w' => e = .returned (.int .i64 0) ∧ Below w.heap.size w w' := by
  have hF : ∀ W, Calls Try.prog 22 #[.agg #[.int .i64 a, .int .i64 b, .int .i64 c, .int .i64 d]] W fun e w' => e = .returned (.bool true) ∧ Below W.heap.size W w' := fun W => by have h := rformed_any a b c d W; rw [show formedB a b c d = true from hv] at h; exact h
  have b0 : w.cell? ⟨p, 0, none⟩ = some (.string s) := (blk_cell hp 0).trans rfl
  have b1 : w.cell? ⟨p, 1, none⟩ = some (.int .i64 a) := (blk_cell hp 1).trans rfl
  have b2 : w.cell? ⟨p, 2, none⟩ = some (.int .i64 b) := (blk_cell hp 2).trans rfl
  have b3 : w.cell? ⟨p, 3, none⟩ = some (.int .i64 c) := (blk_cell hp 3).trans rfl
  have b4 : w.cell? ⟨p, 4, none⟩ = some (.int .i64 d) := (blk_cell hp 4).trans rfl
  have hpl := lt_of_at hp
  go_enter Try.func33, Try.ntmps33
  go_wp2
  refine wp_loop_rounds 2 ?_
  rw [rounds_succ]
  go_wp2_with fail
  refine (hF _).mono ?_
  rintro e w1 ⟨rfl, hb1⟩
  have hs1 := hb1.size
  have hp1 := below_at hb1 hpl hp
  have R1 := hR.below hb1
  have hfi := rfind_any B R v l s w1 R1 hm
  rw [hk] at hfi
  have e0 : w1.cell? ⟨p, 0, none⟩ = some (.string s) := (blk_cell hp1 0).trans rfl
  have e1 : w1.cell? ⟨p, 1, none⟩ = some (.int .i64 a) := (blk_cell hp1 1).trans rfl
  have e2 : w1.cell? ⟨p, 2, none⟩ = some (.int .i64 b) := (blk_cell hp1 2).trans rfl
  have e3 : w1.cell? ⟨p, 3, none⟩ = some (.int .i64 c) := (blk_cell hp1 3).trans rfl
  have e4 : w1.cell? ⟨p, 4, none⟩ = some (.int .i64 d) := (blk_cell hp1 4).trans rfl
  have hpl1 := lt_of_at hp1
  clear b0 b1 b2 b3 b4
  go_wp2
  rw [rounds_succ]
  go_wp2
  refine wp_loop_rounds 2 ?_
  rw [rounds_succ]
  go_wp2_with fail
  refine hfi.mono ?_
  rintro e w2 ⟨rfl, hb2⟩
  have hs2 := hb2.size
  go_wp2
  rw [rounds_succ]
  go_wp2
  go_ret
  exact ⟨rfl, hb1.trans (hb2.mono hs1)⟩
set_option maxRecDepth 20000 in
set_option maxHeartbeats 4000000 in
theorem rtake_form (B R : Nat) (v : Value) (l : List RA) (s : ByteArray) (a b c d : Int) (p cap : Nat) (w : World) (hB : B ≤ w.heap.size) (hR : RefL B w R v l) (hm : l.length ≤ 100000) (hp : w.heap[p]? = some (.cells #[.string s, .int .i64 a, .int .i64 b, .int .i64 c, .int .i64 d] 42 (0, 0))) (hv : okV (a, b, c, d) = false) :
    Calls Try.prog 15 #[.pointer (some ⟨R, 0, none⟩), .slice (some ⟨p, 0, none⟩) 1 cap] w fun e w' => e = .returned (.int .i64 4) ∧ RefPost B w w' R l := by
  have hw := rwrong_form B R v l s a b c d p cap w hR hm hp hv
  have HR := hid hR
  clear hR
  go_enter Try.func15, Try.ntmps15
  go_wp2_with fail
  refine hw.mono ?_
  rintro e w1 ⟨rfl, hb1⟩
  go_wp2
  go_ret
  exact ⟨rfl, RefPost.same HR.out hB hb1⟩
set_option maxRecDepth 20000 in
set_option maxHeartbeats 4000000 in
theorem rtake_none (B R : Nat) (v : Value) (l : List RA) (s : ByteArray) (a b c d : Int) (p cap : Nat) (w : World) (hB : B ≤ w.heap.size) (hR : RefL B w R v l) (hm : l.length ≤ 100000) (hp : w.heap[p]? = some (.cells #[.string s, .int .i64 a, .int .i64 b, .int .i64 c, .int .i64 d] 42 (0, 0))) (hv : okV (a, b, c, d) = true) (hk : findI l s = -1) :
    Calls Try.prog 15 #[.pointer (some ⟨R, 0, none⟩), .slice (some ⟨p, 0, none⟩) 1 cap] w fun e w' => e = .returned (.int .i64 3) ∧ RefPost B w w' R l := by
  have hw := rwrong_none B R v l s a b c d p cap w hR hm hp hv hk
  have HR := hid hR
  clear hR
  go_enter Try.func15, Try.ntmps15
  go_wp2_with fail
  refine hw.mono ?_
  rintro e w1 ⟨rfl, hb1⟩
  go_wp2
  go_ret
  exact ⟨rfl, RefPost.same HR.out hB hb1⟩
end Go.Proofs.Ytobgolceggeogaa
