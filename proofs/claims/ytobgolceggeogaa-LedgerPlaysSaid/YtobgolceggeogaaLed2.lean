/- Contract of chapter 13's Open: the account is there with the limit, or the call is refused and nothing has changed. -/
import Derived.Test.YtobgolceggeogaaLed1
import Derived.Deep.DeepCutAuto
import Derived.Deep.CutBlock
import Derived.WalkSpells
namespace Go.Proofs.Ytobgolceggeogaa
open Go.RowKit
/-- What a store into the ledger may turn: its map's block, or, where there is no map yet, its own block. -/
def Turned (w w' : World) (L : Nat) (m m' : Option Nat) : Prop := (m' = m ∧ w.grownBy w' m) ∨ (m = none ∧ (∃ b, m' = some b ∧ w.heap.size ≤ b) ∧ w.grownBy w' (some L))
theorem grown_below {w w' : World} (h : Below w.heap.size w w') (r : Option Nat) : w.grownBy w' r := ⟨h.os, h.tape, h.output, h.size, fun k hk _ => h.block k hk⟩
theorem below_grown {w w' : World} {r : Option Nat} {B : Nat} (h : w.grownBy w' r) (hB : B ≤ w.heap.size) (hr : ∀ j, r = some j → B ≤ j) : Below B w w' :=
  ⟨h.os, h.tape, h.output, h.size, fun k hk => h.block k (by omega) (by intro e; have := hr k e.symm; omega)⟩
theorem wp_name {P : Program} {c : Code} {Q : Exit → Act → World → Prop} {a : Act} {w : World} (h : ∀ w2, w2 = w → c.wp P Q a w2) : c.wp P Q a w := h w rfl
theorem only_alloc {a w : World} {row : Option Nat} (h : a.grownBy w row) (o : Obj) : a.grownBy (w.alloc o) row :=
  ⟨h.os, h.tape, h.output, Nat.le_trans h.size (by simp), fun i hi hne => (Below.heap_alloc w o i (Nat.lt_of_lt_of_le hi h.size)).trans (h.block i hi hne)⟩
theorem only_setCell {a w : World} {g : Nat} (h : a.grownBy w (some g)) {p : Addr} (hp : p.block = g ∨ a.heap.size ≤ p.block) (u : Value) : a.grownBy (w.setCell p u) (some g) :=
  ⟨h.os, h.tape, h.output, by simpa [World.setCell] using h.size, fun i hi hne => (Below.heap_setCell w p u i (by
    rintro rfl
    rcases hp with hp | hp
    · exact hne (by rw [hp])
    · omega)).trans (h.block i hi hne)⟩
theorem grown_trans {a b c : World} {r : Option Nat} (h : a.grownBy b r) (k : b.grownBy c r) : a.grownBy c r := h.andThen k (fun j e => Or.inr e)
set_option maxHeartbeats 1000000 in
theorem open_form (L n : Nat) (m : Option Nat) (A : Acc) (s : ByteArray) (a b c d : Int) (w : World) (hL : Led w L m n A) (hv : okV (a, b, c, d) = false) :
    Calls Try.prog 11 #[.pointer (some ⟨L, 0, none⟩), .string s, .agg #[.int .i64 a, .int .i64 b, .int .i64 c, .int .i64 d]] w fun e w' => e = .returned (.int .i64 4) ∧ Below w.heap.size w w' := by
  have hlt := led_lt hL
  have qT : ∀ (w : World) (r : Option Nat), (binOp .eql 59 (.map r) (.map none)).run Try.prog w = .ok (.bool r.isNone) w := fun w r => run_eql_map_nil w _ _ _ r Try.underlying59
  have hFm : ∀ W, Calls Try.prog 29 #[.agg #[.int .i64 a, .int .i64 b, .int .i64 c, .int .i64 d]] W fun e w' => e = .returned (.bool false) ∧ Below W.heap.size W w' := fun W => by
    have h := formed_any a b c d W
    have hv2 : formedB a b c d = false := hv
    rw [hv2] at h; exact h
  go_enter Try.func11, Try.ntmps11
  go_wp2_with fail
  refine (hFm _).mono ?_
  rintro e w1 ⟨rfl, hb1⟩
  have hs1 := hb1.size
  simp only [World.size_alloc] at hs1
  have B1 : Below w.heap.size w w1 := Below.trans (by repeat (first | with_reducible assumption | with_reducible exact Below.refl _ _ | with_reducible refine Below.drew ?_ | with_reducible refine below_drewN ?_ _ | with_reducible refine below_alloc ?_ _ | with_reducible refine Below.alloc ?_ (by first | omega | (simp; done) | (simp; omega)) _ | with_reducible refine Below.setCell ?_ (by first | omega | (simp; done) | (simp; omega)) _ | with_reducible refine below_setRow ?_ (by first | omega | (simp; done) | (simp; omega)) _)) (hb1.mono (by first | omega | (simp; done) | (simp; omega)))
  have z := below_at hb1 (n := w.heap.size) (by first | omega | (simp; done) | (simp; omega)) (by (repeat (first | (with_reducible assumption) | (with_reducible exact alloc_at _ _) | ((with_reducible apply alloc_at'); (simp; done)) | (with_reducible apply alloc_at_lt) | (with_reducible apply heap_drew_at) | (with_reducible apply heap_drewN_at) | (with_reducible apply heap_setCell_same) | ((with_reducible apply heap_set_ne); (first | omega | (dsimp only; omega) | (simp; done) | (simp; omega))) | (with_reducible apply setRow_at) | ((with_reducible apply setRow_ne); (first | omega | (dsimp only; omega) | (simp; done) | (simp; omega))))))
  have hl1 : w.heap.size < w1.heap.size := by omega
  obtain ⟨z0, z1, z2, z3, zf⟩ := four z
  go_wp2
  all_goals
    go_ret
    exact ⟨rfl, (by repeat (first | with_reducible assumption | with_reducible exact Below.refl _ _ | with_reducible refine Below.drew ?_ | with_reducible refine below_drewN ?_ _ | with_reducible refine below_alloc ?_ _ | with_reducible refine Below.alloc ?_ (by first | omega | (simp; done) | (simp; omega)) _ | with_reducible refine Below.setCell ?_ (by first | omega | (simp; done) | (simp; omega)) _ | with_reducible refine below_setRow ?_ (by first | omega | (simp; done) | (simp; omega)) _))⟩
set_option maxHeartbeats 1000000 in
theorem open_full (L n b' : Nat) (A : Acc) (s : ByteArray) (a b c d : Int) (w : World) (hL : Led w L (some b') n A) (hs : s.size ≤ maxLen) (hv : okV (a, b, c, d) = true) (hA : A s.data.toList = none) (hn : 64 ≤ n) :
    Calls Try.prog 11 #[.pointer (some ⟨L, 0, none⟩), .string s, .agg #[.int .i64 a, .int .i64 b, .int .i64 c, .int .i64 d]] w fun e w' => e = .returned (.int .i64 6) ∧ Below w.heap.size w w' := by
  have hlt := led_lt hL
  have qT : ∀ (w : World) (r : Option Nat), (binOp .eql 59 (.map r) (.map none)).run Try.prog w = .ok (.bool r.isNone) w := fun w r => run_eql_map_nil w _ _ _ r Try.underlying59
  have hFm : ∀ W, Calls Try.prog 29 #[.agg #[.int .i64 a, .int .i64 b, .int .i64 c, .int .i64 d]] W fun e w' => e = .returned (.bool true) ∧ Below W.heap.size W w' := fun W => by
    have h := formed_any a b c d W
    have hv2 : formedB a b c d = true := hv
    rw [hv2] at h; exact h
  go_enter Try.func11, Try.ntmps11
  go_wp2_with fail
  refine (hFm _).mono ?_
  rintro e w1 ⟨rfl, hb1⟩
  have hs1 := hb1.size
  simp only [World.size_alloc] at hs1
  have B1 : Below w.heap.size w w1 := Below.trans (by repeat (first | with_reducible assumption | with_reducible exact Below.refl _ _ | with_reducible refine Below.drew ?_ | with_reducible refine below_drewN ?_ _ | with_reducible refine below_alloc ?_ _ | with_reducible refine Below.alloc ?_ (by first | omega | (simp; done) | (simp; omega)) _ | with_reducible refine Below.setCell ?_ (by first | omega | (simp; done) | (simp; omega)) _ | with_reducible refine below_setRow ?_ (by first | omega | (simp; done) | (simp; omega)) _)) (hb1.mono (by first | omega | (simp; done) | (simp; omega)))
  have z := below_at hb1 (n := w.heap.size) (by first | omega | (simp; done) | (simp; omega)) (by (repeat (first | (with_reducible assumption) | (with_reducible exact alloc_at _ _) | ((with_reducible apply alloc_at'); (simp; done)) | (with_reducible apply alloc_at_lt) | (with_reducible apply heap_drew_at) | (with_reducible apply heap_drewN_at) | (with_reducible apply heap_setCell_same) | ((with_reducible apply heap_set_ne); (first | omega | (dsimp only; omega) | (simp; done) | (simp; omega))) | (with_reducible apply setRow_at) | ((with_reducible apply setRow_ne); (first | omega | (dsimp only; omega) | (simp; done) | (simp; omega))))))
  have hl1 : w.heap.size < w1.heap.size := by omega
  obtain ⟨z0, z1, z2, z3, zf⟩ := four z
  have LED1 := hL.below B1
  obtain ⟨lc, lf⟩ := led_cell LED1
  have hlt1 : L < w1.heap.size := led_lt LED1
  have hlook : (Instr.lookup 59 (.map (some b')) (.string s) true).run Try.prog w1 = .ok (.tuple #[acctV ((A s.data.toList).getD zeroA), .bool (A s.data.toList).isSome]) w1 := LED1.look_ok hs (fun _ _ => rfl)
  have hlen : ∀ o ty, (Builtin.len_ #[59] ty #[.map (some b')]).run Try.prog (w1.alloc o) = .ok (.int .i64 n) (w1.alloc o) := fun o ty => OwnsM.len (OwnsM.at LED1.2 (by exact Below.heap_alloc _ _ _ LED1.map_lt)) Try.underlying59 ty
  rw [hA] at hlook
  simp only [Option.getD_none, Option.isSome_none, acctV, zeroA, zeroV] at hlook
  have hge : (64 : Int) ≤ n := by omega
  clear hn hs
  go_upto_region 6 with fail
  clear hlook
  go_wp2
  all_goals
    go_ret
    exact ⟨rfl, (by repeat (first | with_reducible assumption | with_reducible exact Below.refl _ _ | with_reducible refine Below.drew ?_ | with_reducible refine below_drewN ?_ _ | with_reducible refine below_alloc ?_ _ | with_reducible refine Below.alloc ?_ (by first | omega | (simp; done) | (simp; omega)) _ | with_reducible refine Below.setCell ?_ (by first | omega | (simp; done) | (simp; omega)) _ | with_reducible refine below_setRow ?_ (by first | omega | (simp; done) | (simp; omega)) _))⟩
set_option maxHeartbeats 1000000 in
theorem open_old (L n b' : Nat) (A : Acc) (s : ByteArray) (a b c d : Int) (w : World) (hL : Led w L (some b') n A) (hs : s.size ≤ maxLen) (hmx : n < maxLen) (hv : okV (a, b, c, d) = true) (x : V) (y0 y1 y2 y3 : Int) (hA : A s.data.toList = some (x, y0, y1, y2, y3)) :
    Calls Try.prog 11 #[.pointer (some ⟨L, 0, none⟩), .string s, .agg #[.int .i64 a, .int .i64 b, .int .i64 c, .int .i64 d]] w fun e w' => e = .returned (.int .i64 0) ∧ Led w' L (some b') n (putA A s.data.toList ((a, b, c, d), y0, y1, y2, y3)) ∧ w.grownBy w' (some b') := by
  have hlt := led_lt hL
  have qT : ∀ (w : World) (r : Option Nat), (binOp .eql 59 (.map r) (.map none)).run Try.prog w = .ok (.bool r.isNone) w := fun w r => run_eql_map_nil w _ _ _ r Try.underlying59
  have hFm : ∀ W, Calls Try.prog 29 #[.agg #[.int .i64 a, .int .i64 b, .int .i64 c, .int .i64 d]] W fun e w' => e = .returned (.bool true) ∧ Below W.heap.size W w' := fun W => by
    have h := formed_any a b c d W
    have hv2 : formedB a b c d = true := hv
    rw [hv2] at h; exact h
  go_enter Try.func11, Try.ntmps11
  go_wp2_with fail
  refine (hFm _).mono ?_
  rintro e w1 ⟨rfl, hb1⟩
  have hs1 := hb1.size
  simp only [World.size_alloc] at hs1
  have B1 : Below w.heap.size w w1 := Below.trans (by repeat (first | with_reducible assumption | with_reducible exact Below.refl _ _ | with_reducible refine Below.drew ?_ | with_reducible refine below_drewN ?_ _ | with_reducible refine below_alloc ?_ _ | with_reducible refine Below.alloc ?_ (by first | omega | (simp; done) | (simp; omega)) _ | with_reducible refine Below.setCell ?_ (by first | omega | (simp; done) | (simp; omega)) _ | with_reducible refine below_setRow ?_ (by first | omega | (simp; done) | (simp; omega)) _)) (hb1.mono (by first | omega | (simp; done) | (simp; omega)))
  have z := below_at hb1 (n := w.heap.size) (by first | omega | (simp; done) | (simp; omega)) (by (repeat (first | (with_reducible assumption) | (with_reducible exact alloc_at _ _) | ((with_reducible apply alloc_at'); (simp; done)) | (with_reducible apply alloc_at_lt) | (with_reducible apply heap_drew_at) | (with_reducible apply heap_drewN_at) | (with_reducible apply heap_setCell_same) | ((with_reducible apply heap_set_ne); (first | omega | (dsimp only; omega) | (simp; done) | (simp; omega))) | (with_reducible apply setRow_at) | ((with_reducible apply setRow_ne); (first | omega | (dsimp only; omega) | (simp; done) | (simp; omega))))))
  have hl1 : w.heap.size < w1.heap.size := by omega
  obtain ⟨z0, z1, z2, z3, zf⟩ := four z
  have LED1 := hL.below B1
  obtain ⟨lc, lf⟩ := led_cell LED1
  have hlt1 : L < w1.heap.size := led_lt LED1
  have hlook : (Instr.lookup 59 (.map (some b')) (.string s) true).run Try.prog w1 = .ok (.tuple #[acctV ((A s.data.toList).getD zeroA), .bool (A s.data.toList).isSome]) w1 := LED1.look_ok hs (fun _ _ => rfl)
  rw [hA] at hlook
  obtain ⟨x0, x1, x2, x3⟩ := x
  simp only [Option.getD_some, Option.isSome_some, acctV] at hlook
  have HS := hid hs
  have HM := hid hmx
  have HL := hid hL
  clear hs hmx hL
  go_upto_region 6 with fail
  clear hlook
  go_upto_region 11 with fail
  have hs := HS.out
  have hmx := HM.out
  refine wp_name ?_
  intro w2 hw2
  have A2 : w2.heap[w1.heap.size]? = some (.cells #[.int .i64 a, .int .i64 b, .int .i64 c, .int .i64 d, .int .i64 y0, .int .i64 y1, .int .i64 y2, .int .i64 y3] 64 (0, 0)) := by rw [hw2]; exact at_of (by apply Exists.intro; refine ⟨?_, ?_⟩; (focus ((repeat (first | (with_reducible assumption) | (with_reducible exact alloc_at _ _) | ((with_reducible apply alloc_at'); (simp; done)) | (with_reducible apply alloc_at_lt) | (with_reducible apply heap_drew_at) | (with_reducible apply heap_drewN_at) | (with_reducible apply heap_setCell_same) | ((with_reducible apply heap_set_ne); (first | omega | (dsimp only; omega) | (simp; done) | (simp; omega))) | (with_reducible apply setRow_at) | ((with_reducible apply setRow_ne); (first | omega | (dsimp only; omega) | (simp; done) | (simp; omega))))))); simp)
  have S2 : w1.heap.size < w2.heap.size := lt_of_at A2
  have LED2 : Led w2 L (some b') n A := LED1.below (by rw [hw2]; exact (by repeat (first | with_reducible assumption | with_reducible exact Below.refl _ _ | with_reducible refine Below.drew ?_ | with_reducible refine below_drewN ?_ _ | with_reducible refine below_alloc ?_ _ | with_reducible refine Below.alloc ?_ (by first | omega | (simp; done) | (simp; omega)) _ | with_reducible refine Below.setCell ?_ (by first | omega | (simp; done) | (simp; omega)) _ | with_reducible refine below_setRow ?_ (by first | omega | (simp; done) | (simp; omega)) _)))
  have G2 : w.grownBy w2 (some b') := grown_below (by rw [hw2]; exact (by repeat (first | with_reducible assumption | with_reducible exact Below.refl _ _ | with_reducible refine Below.drew ?_ | with_reducible refine below_drewN ?_ _ | with_reducible refine below_alloc ?_ _ | with_reducible refine Below.alloc ?_ (by first | omega | (simp; done) | (simp; omega)) _ | with_reducible refine Below.setCell ?_ (by first | omega | (simp; done) | (simp; omega)) _ | with_reducible refine below_setRow ?_ (by first | omega | (simp; done) | (simp; omega)) _))) _
  have B2 : w.heap.size ≤ w2.heap.size := by omega
  clear hw2
  obtain ⟨l2c, l2f⟩ := led_cell LED2
  have L2 := led_lt LED2
  have e0 : ∀ lx_ : Lat w2.heap.size w2, lx_.w.cell? ⟨L, 0, none⟩ = some (.map (some (b'))) := fun lx_ => by rw [lx_.cell _ _ L2]; exact l2c
  have f0 : ∀ lx_ : Lat w2.heap.size w2, lx_.w.cell? ⟨w1.heap.size, 0, none⟩ = some (.int .i64 a) := fun lx_ => by rw [lx_.cell _ _ S2]; exact (blk_cell A2 0).trans rfl
  have f1 : ∀ lx_ : Lat w2.heap.size w2, lx_.w.cell? ⟨w1.heap.size, 1, none⟩ = some (.int .i64 b) := fun lx_ => by rw [lx_.cell _ _ S2]; exact (blk_cell A2 1).trans rfl
  have f2 : ∀ lx_ : Lat w2.heap.size w2, lx_.w.cell? ⟨w1.heap.size, 2, none⟩ = some (.int .i64 c) := fun lx_ => by rw [lx_.cell _ _ S2]; exact (blk_cell A2 2).trans rfl
  have f3 : ∀ lx_ : Lat w2.heap.size w2, lx_.w.cell? ⟨w1.heap.size, 3, none⟩ = some (.int .i64 d) := fun lx_ => by rw [lx_.cell _ _ S2]; exact (blk_cell A2 3).trans rfl
  have f4 : ∀ lx_ : Lat w2.heap.size w2, lx_.w.cell? ⟨w1.heap.size, 4, none⟩ = some (.int .i64 y0) := fun lx_ => by rw [lx_.cell _ _ S2]; exact (blk_cell A2 4).trans rfl
  have f5 : ∀ lx_ : Lat w2.heap.size w2, lx_.w.cell? ⟨w1.heap.size, 5, none⟩ = some (.int .i64 y1) := fun lx_ => by rw [lx_.cell _ _ S2]; exact (blk_cell A2 5).trans rfl
  have f6 : ∀ lx_ : Lat w2.heap.size w2, lx_.w.cell? ⟨w1.heap.size, 6, none⟩ = some (.int .i64 y2) := fun lx_ => by rw [lx_.cell _ _ S2]; exact (blk_cell A2 6).trans rfl
  have f7 : ∀ lx_ : Lat w2.heap.size w2, lx_.w.cell? ⟨w1.heap.size, 7, none⟩ = some (.int .i64 y3) := fun lx_ => by rw [lx_.cell _ _ S2]; exact (blk_cell A2 7).trans rfl
  refine wp_region_lat_tail 6 (by kernel_rfl) (by kernel_rfl) ?_
  simp only [List.take_succ_cons, List.take_zero, List.drop_succ_cons, List.drop_zero]
  repeat (go_big_quiet_step (fail))
  refine wpQuiet_nil ?_
  rintro w3 ⟨x3, hx3⟩
  have hb3 := x3.h
  rw [← hx3] at hb3
  clear hx3 x3 e0 f0 f1 f2 f3 f4 f5 f6 f7
  have LED3 := LED2.below hb3
  obtain ⟨w4, hrun, ho4, hg4, hs4⟩ := OwnsM.store LED3.2 acctV_inj Try.underlying9 Try.underlying59 hmx hs ((a, b, c, d), y0, y1, y2, y3)
  simp only [acctV] at hrun
  have G4 : w2.grownBy w4 (some (b')) := (grown_below hb3 _).andThen hg4 (fun j e => Or.inr e)
  clear hmx hs
  go_wp2
  all_goals
    go_ret
    have L4 : Led w4 L (some (b')) (if (A s.data.toList).isSome then n else n + 1) (putA (A) s.data.toList ((a, b, c, d), y0, y1, y2, y3)) := ⟨(hg4.block L (led_lt LED3) (by intro e; injection e with e; exact OwnsM.ne LED3.2 LED3.1 e)).trans LED3.1, ho4⟩
    rw [hA] at L4
    exact ⟨rfl, L4, G2.andThen G4 (fun j e => Or.inr e)⟩
set_option maxHeartbeats 1000000 in
theorem open_new (L n b' : Nat) (A : Acc) (s : ByteArray) (a b c d : Int) (w : World) (hL : Led w L (some b') n A) (hs : s.size ≤ maxLen) (hmx : n < maxLen) (hn : (n : Int) < 64) (hv : okV (a, b, c, d) = true) (hA : A s.data.toList = none) :
    Calls Try.prog 11 #[.pointer (some ⟨L, 0, none⟩), .string s, .agg #[.int .i64 a, .int .i64 b, .int .i64 c, .int .i64 d]] w fun e w' => e = .returned (.int .i64 0) ∧ Led w' L (some b') (n + 1) (putA A s.data.toList ((a, b, c, d), zeroV)) ∧ w.grownBy w' (some b') := by
  have hlt := led_lt hL
  have qT : ∀ (w : World) (r : Option Nat), (binOp .eql 59 (.map r) (.map none)).run Try.prog w = .ok (.bool r.isNone) w := fun w r => run_eql_map_nil w _ _ _ r Try.underlying59
  have hFm : ∀ W, Calls Try.prog 29 #[.agg #[.int .i64 a, .int .i64 b, .int .i64 c, .int .i64 d]] W fun e w' => e = .returned (.bool true) ∧ Below W.heap.size W w' := fun W => by
    have h := formed_any a b c d W
    have hv2 : formedB a b c d = true := hv
    rw [hv2] at h; exact h
  go_enter Try.func11, Try.ntmps11
  go_wp2_with fail
  refine (hFm _).mono ?_
  rintro e w1 ⟨rfl, hb1⟩
  have hs1 := hb1.size
  simp only [World.size_alloc] at hs1
  have B1 : Below w.heap.size w w1 := Below.trans (by repeat (first | with_reducible assumption | with_reducible exact Below.refl _ _ | with_reducible refine Below.drew ?_ | with_reducible refine below_drewN ?_ _ | with_reducible refine below_alloc ?_ _ | with_reducible refine Below.alloc ?_ (by first | omega | (simp; done) | (simp; omega)) _ | with_reducible refine Below.setCell ?_ (by first | omega | (simp; done) | (simp; omega)) _ | with_reducible refine below_setRow ?_ (by first | omega | (simp; done) | (simp; omega)) _)) (hb1.mono (by first | omega | (simp; done) | (simp; omega)))
  have z := below_at hb1 (n := w.heap.size) (by first | omega | (simp; done) | (simp; omega)) (by (repeat (first | (with_reducible assumption) | (with_reducible exact alloc_at _ _) | ((with_reducible apply alloc_at'); (simp; done)) | (with_reducible apply alloc_at_lt) | (with_reducible apply heap_drew_at) | (with_reducible apply heap_drewN_at) | (with_reducible apply heap_setCell_same) | ((with_reducible apply heap_set_ne); (first | omega | (dsimp only; omega) | (simp; done) | (simp; omega))) | (with_reducible apply setRow_at) | ((with_reducible apply setRow_ne); (first | omega | (dsimp only; omega) | (simp; done) | (simp; omega))))))
  have hl1 : w.heap.size < w1.heap.size := by omega
  obtain ⟨z0, z1, z2, z3, zf⟩ := four z
  have LED1 := hL.below B1
  obtain ⟨lc, lf⟩ := led_cell LED1
  have hlt1 : L < w1.heap.size := led_lt LED1
  have hlook : (Instr.lookup 59 (.map (some b')) (.string s) true).run Try.prog w1 = .ok (.tuple #[acctV ((A s.data.toList).getD zeroA), .bool (A s.data.toList).isSome]) w1 := LED1.look_ok hs (fun _ _ => rfl)
  have hlen : ∀ o ty, (Builtin.len_ #[59] ty #[.map (some b')]).run Try.prog (w1.alloc o) = .ok (.int .i64 n) (w1.alloc o) := fun o ty => OwnsM.len (OwnsM.at LED1.2 (by exact Below.heap_alloc _ _ _ LED1.map_lt)) Try.underlying59 ty
  rw [hA] at hlook
  simp only [Option.getD_none, Option.isSome_none, acctV, zeroA, zeroV] at hlook
  have HS := hid hs
  have HM := hid hmx
  have HL := hid hL
  clear hs hmx hL
  go_upto_region 6 with fail
  clear hlook
  go_upto_region 11 with fail
  clear hlen
  have hs := HS.out
  have hmx := HM.out
  refine wp_name ?_
  intro w2 hw2
  have A2 : w2.heap[w1.heap.size]? = some (.cells #[.int .i64 a, .int .i64 b, .int .i64 c, .int .i64 d, .int .i64 0, .int .i64 0, .int .i64 0, .int .i64 0] 64 (0, 0)) := by rw [hw2]; exact at_of (by apply Exists.intro; refine ⟨?_, ?_⟩; (focus ((repeat (first | (with_reducible assumption) | (with_reducible exact alloc_at _ _) | ((with_reducible apply alloc_at'); (simp; done)) | (with_reducible apply alloc_at_lt) | (with_reducible apply heap_drew_at) | (with_reducible apply heap_drewN_at) | (with_reducible apply heap_setCell_same) | ((with_reducible apply heap_set_ne); (first | omega | (dsimp only; omega) | (simp; done) | (simp; omega))) | (with_reducible apply setRow_at) | ((with_reducible apply setRow_ne); (first | omega | (dsimp only; omega) | (simp; done) | (simp; omega))))))); simp)
  have S2 : w1.heap.size < w2.heap.size := lt_of_at A2
  have LED2 : Led w2 L (some b') n A := LED1.below (by rw [hw2]; exact (by repeat (first | with_reducible assumption | with_reducible exact Below.refl _ _ | with_reducible refine Below.drew ?_ | with_reducible refine below_drewN ?_ _ | with_reducible refine below_alloc ?_ _ | with_reducible refine Below.alloc ?_ (by first | omega | (simp; done) | (simp; omega)) _ | with_reducible refine Below.setCell ?_ (by first | omega | (simp; done) | (simp; omega)) _ | with_reducible refine below_setRow ?_ (by first | omega | (simp; done) | (simp; omega)) _)))
  have G2 : w.grownBy w2 (some b') := grown_below (by rw [hw2]; exact (by repeat (first | with_reducible assumption | with_reducible exact Below.refl _ _ | with_reducible refine Below.drew ?_ | with_reducible refine below_drewN ?_ _ | with_reducible refine below_alloc ?_ _ | with_reducible refine Below.alloc ?_ (by first | omega | (simp; done) | (simp; omega)) _ | with_reducible refine Below.setCell ?_ (by first | omega | (simp; done) | (simp; omega)) _ | with_reducible refine below_setRow ?_ (by first | omega | (simp; done) | (simp; omega)) _))) _
  have B2 : w.heap.size ≤ w2.heap.size := by omega
  clear hw2
  obtain ⟨l2c, l2f⟩ := led_cell LED2
  have L2 := led_lt LED2
  have e0 : ∀ lx_ : Lat w2.heap.size w2, lx_.w.cell? ⟨L, 0, none⟩ = some (.map (some (b'))) := fun lx_ => by rw [lx_.cell _ _ L2]; exact l2c
  have f0 : ∀ lx_ : Lat w2.heap.size w2, lx_.w.cell? ⟨w1.heap.size, 0, none⟩ = some (.int .i64 a) := fun lx_ => by rw [lx_.cell _ _ S2]; exact (blk_cell A2 0).trans rfl
  have f1 : ∀ lx_ : Lat w2.heap.size w2, lx_.w.cell? ⟨w1.heap.size, 1, none⟩ = some (.int .i64 b) := fun lx_ => by rw [lx_.cell _ _ S2]; exact (blk_cell A2 1).trans rfl
  have f2 : ∀ lx_ : Lat w2.heap.size w2, lx_.w.cell? ⟨w1.heap.size, 2, none⟩ = some (.int .i64 c) := fun lx_ => by rw [lx_.cell _ _ S2]; exact (blk_cell A2 2).trans rfl
  have f3 : ∀ lx_ : Lat w2.heap.size w2, lx_.w.cell? ⟨w1.heap.size, 3, none⟩ = some (.int .i64 d) := fun lx_ => by rw [lx_.cell _ _ S2]; exact (blk_cell A2 3).trans rfl
  have f4 : ∀ lx_ : Lat w2.heap.size w2, lx_.w.cell? ⟨w1.heap.size, 4, none⟩ = some (.int .i64 0) := fun lx_ => by rw [lx_.cell _ _ S2]; exact (blk_cell A2 4).trans rfl
  have f5 : ∀ lx_ : Lat w2.heap.size w2, lx_.w.cell? ⟨w1.heap.size, 5, none⟩ = some (.int .i64 0) := fun lx_ => by rw [lx_.cell _ _ S2]; exact (blk_cell A2 5).trans rfl
  have f6 : ∀ lx_ : Lat w2.heap.size w2, lx_.w.cell? ⟨w1.heap.size, 6, none⟩ = some (.int .i64 0) := fun lx_ => by rw [lx_.cell _ _ S2]; exact (blk_cell A2 6).trans rfl
  have f7 : ∀ lx_ : Lat w2.heap.size w2, lx_.w.cell? ⟨w1.heap.size, 7, none⟩ = some (.int .i64 0) := fun lx_ => by rw [lx_.cell _ _ S2]; exact (blk_cell A2 7).trans rfl
  refine wp_region_lat_tail 6 (by kernel_rfl) (by kernel_rfl) ?_
  simp only [List.take_succ_cons, List.take_zero, List.drop_succ_cons, List.drop_zero]
  repeat (go_big_quiet_step (fail))
  refine wpQuiet_nil ?_
  rintro w3 ⟨x3, hx3⟩
  have hb3 := x3.h
  rw [← hx3] at hb3
  clear hx3 x3 e0 f0 f1 f2 f3 f4 f5 f6 f7
  have LED3 := LED2.below hb3
  obtain ⟨w4, hrun, ho4, hg4, hs4⟩ := OwnsM.store LED3.2 acctV_inj Try.underlying9 Try.underlying59 hmx hs ((a, b, c, d), 0, 0, 0, 0)
  simp only [acctV] at hrun
  have G4 : w2.grownBy w4 (some (b')) := (grown_below hb3 _).andThen hg4 (fun j e => Or.inr e)
  clear hmx hs
  go_wp2
  all_goals
    go_ret
    have L4 : Led w4 L (some (b')) (if (A s.data.toList).isSome then n else n + 1) (putA (A) s.data.toList ((a, b, c, d), 0, 0, 0, 0)) := ⟨(hg4.block L (led_lt LED3) (by intro e; injection e with e; exact OwnsM.ne LED3.2 LED3.1 e)).trans LED3.1, ho4⟩
    rw [hA] at L4
    exact ⟨rfl, L4, G2.andThen G4 (fun j e => Or.inr e)⟩
set_option maxHeartbeats 1000000 in
theorem open_first (L : Nat) (s : ByteArray) (a b c d : Int) (w : World) (hL : Led w L none 0 noA) (hs : s.size ≤ maxLen) (hv : okV (a, b, c, d) = true) :
    Calls Try.prog 11 #[.pointer (some ⟨L, 0, none⟩), .string s, .agg #[.int .i64 a, .int .i64 b, .int .i64 c, .int .i64 d]] w fun e w' => e = .returned (.int .i64 0) ∧ ∃ b', w.heap.size ≤ b' ∧ Led w' L (some b') 1 (putA noA s.data.toList ((a, b, c, d), zeroV)) ∧ w.grownBy w' (some L) := by
  have hlt := led_lt hL
  have qT : ∀ (w : World) (r : Option Nat), (binOp .eql 59 (.map r) (.map none)).run Try.prog w = .ok (.bool r.isNone) w := fun w r => run_eql_map_nil w _ _ _ r Try.underlying59
  have hFm : ∀ W, Calls Try.prog 29 #[.agg #[.int .i64 a, .int .i64 b, .int .i64 c, .int .i64 d]] W fun e w' => e = .returned (.bool true) ∧ Below W.heap.size W w' := fun W => by
    have h := formed_any a b c d W
    have hv2 : formedB a b c d = true := hv
    rw [hv2] at h; exact h
  go_enter Try.func11, Try.ntmps11
  go_wp2_with fail
  refine (hFm _).mono ?_
  rintro e w1 ⟨rfl, hb1⟩
  have hs1 := hb1.size
  simp only [World.size_alloc] at hs1
  have B1 : Below w.heap.size w w1 := Below.trans (by repeat (first | with_reducible assumption | with_reducible exact Below.refl _ _ | with_reducible refine Below.drew ?_ | with_reducible refine below_drewN ?_ _ | with_reducible refine below_alloc ?_ _ | with_reducible refine Below.alloc ?_ (by first | omega | (simp; done) | (simp; omega)) _ | with_reducible refine Below.setCell ?_ (by first | omega | (simp; done) | (simp; omega)) _ | with_reducible refine below_setRow ?_ (by first | omega | (simp; done) | (simp; omega)) _)) (hb1.mono (by first | omega | (simp; done) | (simp; omega)))
  have z := below_at hb1 (n := w.heap.size) (by first | omega | (simp; done) | (simp; omega)) (by (repeat (first | (with_reducible assumption) | (with_reducible exact alloc_at _ _) | ((with_reducible apply alloc_at'); (simp; done)) | (with_reducible apply alloc_at_lt) | (with_reducible apply heap_drew_at) | (with_reducible apply heap_drewN_at) | (with_reducible apply heap_setCell_same) | ((with_reducible apply heap_set_ne); (first | omega | (dsimp only; omega) | (simp; done) | (simp; omega))) | (with_reducible apply setRow_at) | ((with_reducible apply setRow_ne); (first | omega | (dsimp only; omega) | (simp; done) | (simp; omega))))))
  have hl1 : w.heap.size < w1.heap.size := by omega
  obtain ⟨z0, z1, z2, z3, zf⟩ := four z
  have LED1 := hL.below B1
  obtain ⟨lc, lf⟩ := led_cell LED1
  have hlt1 : L < w1.heap.size := led_lt LED1
  have hlook : (Instr.lookup 59 (.map (none)) (.string s) true).run Try.prog w1 = .ok (.tuple #[acctV ((noA s.data.toList).getD zeroA), .bool (noA s.data.toList).isSome]) w1 := LED1.look_ok hs (fun _ _ => rfl)
  simp only [noA, Option.getD_none, Option.isSome_none, acctV, zeroA, zeroV] at hlook
  have hlen : ∀ w' ty, (Builtin.len_ #[59] ty #[.map none]).run Try.prog w' = .ok (.int .i64 0) w' := fun w' ty => Maps.len_nil Try.underlying59 ty
  have hmk : ∀ w', (Instr.makeMap 59 none).run Try.prog w' = .ok (.map (some w'.heap.size)) (w'.alloc (.map #[] 0)) := fun w' => run_makeMap _ w'
  have HS := hid hs
  have HL := hid hL
  have hL1 := LED1.1
  have nl : L ≠ w1.heap.size := by omega
  have nl2 : L ≠ w1.heap.size + 1 := by omega
  clear hs hL LED1
  go_upto_region 6 with fail
  clear hlook
  go_upto_region 11 with fail
  clear hlen
  have hs := HS.out
  have hmx : 0 < maxLen := by unfold maxLen; omega
  refine wp_name ?_
  intro w2 hw2
  have A2 : w2.heap[w1.heap.size]? = some (.cells #[.int .i64 a, .int .i64 b, .int .i64 c, .int .i64 d, .int .i64 0, .int .i64 0, .int .i64 0, .int .i64 0] 64 (0, 0)) := by rw [hw2]; exact at_of (by apply Exists.intro; refine ⟨?_, ?_⟩; (focus ((repeat (first | (with_reducible assumption) | (with_reducible exact alloc_at _ _) | ((with_reducible apply alloc_at'); (simp; done)) | (with_reducible apply alloc_at_lt) | (with_reducible apply heap_drew_at) | (with_reducible apply heap_drewN_at) | (with_reducible apply heap_setCell_same) | ((with_reducible apply heap_set_ne); (first | omega | (dsimp only; omega) | (simp; done) | (simp; omega))) | (with_reducible apply setRow_at) | ((with_reducible apply setRow_ne); (first | omega | (dsimp only; omega) | (simp; done) | (simp; omega))))))); simp)
  have S2 : w1.heap.size < w2.heap.size := lt_of_at A2
  have C2 : w2.heap[L]? = some (.cells #[.map (some (w1.heap.size + 1))] 61 (0, 0)) := by rw [hw2]; exact at_of (by apply Exists.intro; refine ⟨?_, ?_⟩; (focus ((repeat (first | (with_reducible assumption) | (with_reducible exact alloc_at _ _) | ((with_reducible apply alloc_at'); (simp; done)) | (with_reducible apply alloc_at_lt) | (with_reducible apply heap_drew_at) | (with_reducible apply heap_drewN_at) | (with_reducible apply heap_setCell_same) | ((with_reducible apply heap_set_ne); (first | omega | (dsimp only; omega) | (simp; done) | (simp; omega))) | (with_reducible apply setRow_at) | ((with_reducible apply setRow_ne); (first | omega | (dsimp only; omega) | (simp; done) | (simp; omega))))))); simp)
  have M2 : w2.heap[w1.heap.size + 1]? = some (.map #[] 0) := by rw [hw2]; exact (by (repeat (first | (with_reducible assumption) | (with_reducible exact alloc_at _ _) | ((with_reducible apply alloc_at'); (simp; done)) | (with_reducible apply alloc_at_lt) | (with_reducible apply heap_drew_at) | (with_reducible apply heap_drewN_at) | (with_reducible apply heap_setCell_same) | ((with_reducible apply heap_set_ne); (first | omega | (dsimp only; omega) | (simp; done) | (simp; omega))) | (with_reducible apply setRow_at) | ((with_reducible apply setRow_ne); (first | omega | (dsimp only; omega) | (simp; done) | (simp; omega))))))
  have LED2 : Led w2 L (some (w1.heap.size + 1)) 0 noA := ⟨C2, by
    have := OwnsM.made w1 Try.prog 9 acctV
    have h2 := OwnsM.made (w1.alloc (.map #[] 0)) Try.prog 9 acctV
    rw [show (w1.alloc (.map #[] 0)).heap.size = w1.heap.size + 1 by simp] at h2
    exact OwnsM.at h2 (by rw [M2]; exact (alloc_at' _ (by simp)).symm)⟩
  have G2 : w.grownBy w2 (some L) := by
    rw [hw2]
    repeat (first | exact grown_below B1 _ | (refine only_setCell ?_ (by first | (left; rfl) | (right; dsimp only; omega)) _) | (refine only_alloc ?_ _))
  have B2 : w.heap.size ≤ w2.heap.size := by omega
  clear hw2
  obtain ⟨l2c, l2f⟩ := led_cell LED2
  have L2 := led_lt LED2
  have e0 : ∀ lx_ : Lat w2.heap.size w2, lx_.w.cell? ⟨L, 0, none⟩ = some (.map (some (w1.heap.size + 1))) := fun lx_ => by rw [lx_.cell _ _ L2]; exact l2c
  have f0 : ∀ lx_ : Lat w2.heap.size w2, lx_.w.cell? ⟨w1.heap.size, 0, none⟩ = some (.int .i64 a) := fun lx_ => by rw [lx_.cell _ _ S2]; exact (blk_cell A2 0).trans rfl
  have f1 : ∀ lx_ : Lat w2.heap.size w2, lx_.w.cell? ⟨w1.heap.size, 1, none⟩ = some (.int .i64 b) := fun lx_ => by rw [lx_.cell _ _ S2]; exact (blk_cell A2 1).trans rfl
  have f2 : ∀ lx_ : Lat w2.heap.size w2, lx_.w.cell? ⟨w1.heap.size, 2, none⟩ = some (.int .i64 c) := fun lx_ => by rw [lx_.cell _ _ S2]; exact (blk_cell A2 2).trans rfl
  have f3 : ∀ lx_ : Lat w2.heap.size w2, lx_.w.cell? ⟨w1.heap.size, 3, none⟩ = some (.int .i64 d) := fun lx_ => by rw [lx_.cell _ _ S2]; exact (blk_cell A2 3).trans rfl
  have f4 : ∀ lx_ : Lat w2.heap.size w2, lx_.w.cell? ⟨w1.heap.size, 4, none⟩ = some (.int .i64 0) := fun lx_ => by rw [lx_.cell _ _ S2]; exact (blk_cell A2 4).trans rfl
  have f5 : ∀ lx_ : Lat w2.heap.size w2, lx_.w.cell? ⟨w1.heap.size, 5, none⟩ = some (.int .i64 0) := fun lx_ => by rw [lx_.cell _ _ S2]; exact (blk_cell A2 5).trans rfl
  have f6 : ∀ lx_ : Lat w2.heap.size w2, lx_.w.cell? ⟨w1.heap.size, 6, none⟩ = some (.int .i64 0) := fun lx_ => by rw [lx_.cell _ _ S2]; exact (blk_cell A2 6).trans rfl
  have f7 : ∀ lx_ : Lat w2.heap.size w2, lx_.w.cell? ⟨w1.heap.size, 7, none⟩ = some (.int .i64 0) := fun lx_ => by rw [lx_.cell _ _ S2]; exact (blk_cell A2 7).trans rfl
  refine wp_region_lat_tail 6 (by kernel_rfl) (by kernel_rfl) ?_
  simp only [List.take_succ_cons, List.take_zero, List.drop_succ_cons, List.drop_zero]
  repeat (go_big_quiet_step (fail))
  refine wpQuiet_nil ?_
  rintro w3 ⟨x3, hx3⟩
  have hb3 := x3.h
  rw [← hx3] at hb3
  clear hx3 x3 e0 f0 f1 f2 f3 f4 f5 f6 f7
  have LED3 := LED2.below hb3
  obtain ⟨w4, hrun, ho4, hg4, hs4⟩ := OwnsM.store LED3.2 acctV_inj Try.underlying9 Try.underlying59 hmx hs ((a, b, c, d), 0, 0, 0, 0)
  simp only [acctV] at hrun
  have G4 : w2.grownBy w4 (some (w1.heap.size + 1)) := (grown_below hb3 _).andThen hg4 (fun j e => Or.inr e)
  clear hmx hs
  go_wp2
  all_goals
    go_ret
    have L4 : Led w4 L (some (w1.heap.size + 1)) (if (noA s.data.toList).isSome then 0 else 0 + 1) (putA (noA) s.data.toList ((a, b, c, d), 0, 0, 0, 0)) := ⟨(hg4.block L (led_lt LED3) (by intro e; injection e with e; exact OwnsM.ne LED3.2 LED3.1 e)).trans LED3.1, ho4⟩
    exact ⟨rfl, _, by omega, L4, G2.andThen G4 (fun j e => by cases e; left; omega)⟩
end Go.Proofs.Ytobgolceggeogaa
