/- FibMelds: three heaps side by side, and the walk: what is popped of two heaps that are melded is what is popped of one in which all was put. -/
import Derived.Test.YthdbiablpkeagaaFibK
import Derived.Test.YthdbiablpkeagaaFbV
namespace Go.Proofs.Ythdbiablpkeagaa
open Go.RowKit
/-- Two heaps share no block. -/
def Ap (H : Nat) (v : Value) (O : Nat) (u : Value) : Prop := ∀ i, FootV H v i → ¬ FootV O u i
theorem Ap.symm {H O : Nat} {v u : Value} (h : Ap H v O u) : Ap O u H v := fun i h1 h2 => h i h2 h1
theorem FootV.lt {B H : Nat} {w : World} {v : Value} {s : Hp} {least n : Int} (h : HeapV B w H v s least n) {i : Nat} (hi : FootV H v i) : i < w.heap.size := by
  rcases hi with rfl | hi
  · exact h.ltH
  · exact (h.row.lt i hi).2
/-- Three heaps. -/
structure Tri (B : Nat) (w : World) (X Y Z : Nat) (vx vy vz : Value) (sx sy sz : Hp) (lx ly lz nx ny nz : Int) : Prop where
  hx : HeapV B w X vx sx lx nx
  gx : Good sx lx nx
  hy : HeapV B w Y vy sy ly ny
  gy : Good sy ly ny
  hz : HeapV B w Z vz sz lz nz
  gz : Good sz lz nz
  xy : Ap X vx Y vy
  xz : Ap X vx Z vz
  yz : Ap Y vy Z vz
variable {B X Y Z : Nat} {w w' : World} {vx vy vz vx' : Value} {sx sy sz sx' : Hp} {lx ly lz nx ny nz lx' nx' : Int}
theorem Tri.rot (h : Tri B w X Y Z vx vy vz sx sy sz lx ly lz nx ny nz) : Tri B w Y Z X vy vz vx sy sz sx ly lz lx ny nz nx := ⟨h.hy, h.gy, h.hz, h.gz, h.hx, h.gx, h.yz, h.xy.symm, h.xz.symm⟩
theorem Tri.below (h : Tri B w X Y Z vx vy vz sx sy sz lx ly lz nx ny nz) (hb : Below w.heap.size w w') : Tri B w' X Y Z vx vy vz sx sy sz lx ly lz nx ny nz := ⟨h.hx.below hb, h.gx, h.hy.below hb, h.gy, h.hz.below hb, h.gz, h.xy, h.xz, h.yz⟩
theorem Ap.grow {H O : Nat} {v u v' : Value} {s : Hp} {least n : Int} (h : Ap H v O u) (k : HeapV B w O u s least n) (g : GrowV w H v v') : Ap H v' O u := fun i hi ho => by
  rcases g i hi with q | q
  · exact h i q ho
  · have := FootV.lt k ho; omega
theorem Tri.first (h : Tri B w X Y Z vx vy vz sx sy sz lx ly lz nx ny nz) (h2 : HeapV B w' X vx' sx' lx' nx') (g2 : Good sx' lx' nx') (gr : GrowV w X vx vx') (t : Tur (FootV X vx) w w') : Tri B w' X Y Z vx' vy vz sx' sy sz lx' ly lz nx' ny nz :=
  ⟨h2, g2, h.hy.at fun i hi => t.kept i (FootV.lt h.hy hi) (h.xy.symm i hi), h.gy, h.hz.at fun i hi => t.kept i (FootV.lt h.hz hi) (h.xz.symm i hi), h.gz, h.xy.grow h.hy gr, h.xz.grow h.hz gr, h.yz⟩
theorem Tri.le (h : Tri B w X Y Z vx vy vz sx sy sz lx ly lz nx ny nz) : B ≤ w.heap.size := h.hx.le
/-- All that were put in are there. -/
def Full (s : Hp) (q : Nat) : Prop := s.m = q ∧ ∀ z, s.th z = decide (z < q)
theorem full0 : Full hp0 0 := ⟨rfl, fun z => by simp [hp0]⟩
theorem Full.ins {s s' : Hp} {k : K3} {q : Nat} (h : Full s q) (hs : SameK (s.insS k) s') : Full s' (q + 1) ∧ s'.key q = k ∧ ∀ z, z < q → s'.key z = s.key z := by
  obtain ⟨hm, ht⟩ := h
  refine ⟨⟨by rw [hs.1]; show s.m + 1 = q + 1; omega, fun z => ?_⟩, ?_, fun z hz => ?_⟩
  · rw [hs.2.2]
    show up s.th s.m true z = _
    by_cases e2 : z = s.m
    · rw [e2, up_same, hm]; simp
    · rw [up_ne _ _ e2, ht z, decide_eq_decide]; omega
  · rw [hs.2.1]
    show up s.key s.m k q = k
    rw [← hm, up_same]
  · rw [hs.2.1]
    show up s.key s.m k z = _
    rw [up_ne _ _ (by omega)]
/-- Two heaps hold the same. -/
def SameC (s t : Hp) : Prop := (∀ z, s.th z = t.th z) ∧ ∀ z, s.th z = true → s.key z = t.key z
theorem SameC.least {s t : Hp} {x y : Nat} (h : SameC s t) (tx : s.th x = true) (ty : t.th y = true) (hx : ∀ z, s.th z = true → z = x ∨ s.lt x z) (hy : ∀ z, t.th z = true → z = y ∨ t.lt y z) : x = y := by
  have tx2 : t.th x = true := by rw [← h.1 x]; exact tx
  have ty2 : s.th y = true := by rw [h.1 y]; exact ty
  rcases hx y ty2 with e | e
  · exact e.symm
  · rcases hy x tx2 with e2 | e2
    · exact e2
    · exfalso
      unfold Hp.lt at e e2
      rw [h.2 x tx, h.2 y ty2] at e
      exact ltk_asy e e2
theorem SameC.pop {s t s' t' : Hp} {x : Nat} (h : SameC s t) (hs : SameK (s.clear x) s') (ht : SameK (t.clear x) t') : SameC s' t' := by
  refine ⟨fun z => ?_, fun z hz => ?_⟩
  · rw [hs.2.2, ht.2.2]
    show up s.th x false z = up t.th x false z
    by_cases e : z = x
    · rw [e, up_same, up_same]
    · rw [up_ne _ _ e, up_ne _ _ e]; exact h.1 z
  · rw [hs.2.2] at hz
    have hz2 : up s.th x false z = true := hz
    have e : z ≠ x := fun e => by rw [e, up_same] at hz2; cases hz2
    rw [up_ne _ _ e] at hz2
    rw [hs.2.1, ht.2.1]
    show up s.key x (0, 0, 0) z = up t.key x (0, 0, 0) z
    rw [up_ne _ _ e, up_ne _ _ e]
    exact h.2 z hz2
/-- Loop 1: x and z hold the same q keys, y holds none. -/
def M1 (B : Nat) (w : World) (X Y Z q : Nat) : Prop := ∃ vx vz sx sz lx lz, Tri B w X Y Z vx (.slice none 0 0) vz sx hp0 sz lx 0 lz q 0 q ∧ Full sx q ∧ Full sz q ∧ ∀ i, i < q → sx.key i = sz.key i
/-- Loop 2: y has r more, and z behind x's. -/
def M2 (B : Nat) (w : World) (X Y Z q r : Nat) : Prop := ∃ vx vy vz sx sy sz lx ly lz, Tri B w X Y Z vx vy vz sx sy sz lx ly lz q r ((q + r : Nat) : Int) ∧ Full sx q ∧ Full sy r ∧ Full sz (q + r) ∧ (∀ i, i < q → sx.key i = sz.key i) ∧ ∀ i, i < r → sy.key i = sz.key (q + i)
theorem M1.to2 {q : Nat} (h : M1 B w X Y Z q) : M2 B w X Y Z q 0 := by
  obtain ⟨vx, vz, sx, sz, lx, lz, h1, h2, h3, h4⟩ := h
  exact ⟨vx, _, vz, sx, hp0, sz, lx, 0, lz, h1, h2, full0, h3, h4, fun i hi => by omega⟩
theorem M1.below {q : Nat} (h : M1 B w X Y Z q) (hb : Below w.heap.size w w') : M1 B w' X Y Z q := by
  obtain ⟨vx, vz, sx, sz, lx, lz, h1, r⟩ := h
  exact ⟨vx, vz, sx, sz, lx, lz, h1.below hb, r⟩
theorem M2.below {q r : Nat} (h : M2 B w X Y Z q r) (hb : Below w.heap.size w w') : M2 B w' X Y Z q r := by
  obtain ⟨vx, vy, vz, sx, sy, sz, lx, ly, lz, h1, r⟩ := h
  exact ⟨vx, vy, vz, sx, sy, sz, lx, ly, lz, h1.below hb, r⟩
theorem M2.le {q r : Nat} (h : M2 B w X Y Z q r) : B ≤ w.heap.size := by
  obtain ⟨vx, vy, vz, sx, sy, sz, lx, ly, lz, h1, r⟩ := h
  exact h1.le
/-- A key that is none is refused by each. -/
theorem ins_bad {H : Nat} {v : Value} {s : Hp} {l n : Int} (h : HeapV B w H v s l n) (a c : Int) : Calls Try.prog 10 #[.pointer (some ⟨H, 0, none⟩), .agg #[.int .u64 a, .int .u64 0, .int .i64 c]] w fun e w' => e = .returned (.tuple #[.int .i64 0, .int .i64 4]) ∧ Below w.heap.size w w' := insert_form h a c
/-- Loop 1's two calls. -/
theorem M1.ins {q : Nat} (k : K3) (h : M1 B w X Y Z q) (hk : okK k) (hq : q < 100000) :
    Calls Try.prog 10 #[.pointer (some ⟨X, 0, none⟩), .agg #[.int .u64 k.1, .int .u64 k.2.1, .int .i64 k.2.2]] w fun e w1 => e = .returned (.tuple #[.int .i64 q, .int .i64 0]) ∧ Below B w w1 ∧
      Calls Try.prog 10 #[.pointer (some ⟨Z, 0, none⟩), .agg #[.int .u64 k.1, .int .u64 k.2.1, .int .i64 k.2.2]] w1 fun e w2 => e = .returned (.tuple #[.int .i64 q, .int .i64 0]) ∧ Below B w1 w2 ∧ M1 B w2 X Y Z (q + 1) := by
  obtain ⟨vx, vz, sx, sz, lx, lz, h1, h2, h3, h4⟩ := h
  refine (insert_ok k h1.hx h1.gx hk (by rw [h2.1]; omega)).mono ?_
  rintro e w1 ⟨rfl, vx1, sx1, lx1, a1, a2, a3, a4, a5⟩
  have t1 := h1.first a1 a2 a4 a5
  have f1 := h2.ins a3
  refine ⟨by rw [h2.1], a5.below h1.hx.le h1.hx.foot, (insert_ok k t1.hz t1.gz hk (by rw [h3.1]; omega)).mono ?_⟩
  rintro e w2 ⟨rfl, vz1, sz1, lz1, b1, b2, b3, b4, b5⟩
  have t2 := (t1.rot.rot.first b1 b2 b4 b5).rot
  have f2 := h3.ins b3
  refine ⟨by rw [h3.1], b5.below t1.hz.le t1.hz.foot, vx1, vz1, sx1, sz1, lx1, lz1, ?_, f1.1, f2.1, fun i hi => ?_⟩
  · have e : (q : Int) + 1 = ((q + 1 : Nat) : Int) := by omega
    rw [e] at t2
    exact t2
  · by_cases e : i = q
    · rw [e, f1.2.1, f2.2.1]
    · rw [f1.2.2 i (by omega), f2.2.2 i (by omega)]; exact h4 i (by omega)
/-- Loop 2's two calls. -/
theorem M2.ins {q r : Nat} (k : K3) (h : M2 B w X Y Z q r) (hk : okK k) (hq : q + r < 100000) :
    Calls Try.prog 10 #[.pointer (some ⟨Y, 0, none⟩), .agg #[.int .u64 k.1, .int .u64 k.2.1, .int .i64 k.2.2]] w fun e w1 => e = .returned (.tuple #[.int .i64 r, .int .i64 0]) ∧ Below B w w1 ∧
      Calls Try.prog 10 #[.pointer (some ⟨Z, 0, none⟩), .agg #[.int .u64 k.1, .int .u64 k.2.1, .int .i64 k.2.2]] w1 fun e w2 => e = .returned (.tuple #[.int .i64 ((q + r : Nat) : Int), .int .i64 0]) ∧ Below B w1 w2 ∧ M2 B w2 X Y Z q (r + 1) := by
  obtain ⟨vx, vy, vz, sx, sy, sz, lx, ly, lz, h1, h2, h3, h4, h5, h6⟩ := h
  refine (insert_ok k h1.hy h1.gy hk (by rw [h3.1]; omega)).mono ?_
  rintro e w1 ⟨rfl, vy1, sy1, ly1, a1, a2, a3, a4, a5⟩
  have t1 := h1.rot.first a1 a2 a4 a5
  have f1 := h3.ins a3
  refine ⟨by rw [h3.1], a5.below h1.hy.le h1.hy.foot, (insert_ok k t1.hy t1.gy hk (by rw [h4.1]; omega)).mono ?_⟩
  rintro e w2 ⟨rfl, vz1, sz1, lz1, b1, b2, b3, b4, b5⟩
  have t2 := (t1.rot.first b1 b2 b4 b5).rot
  have f2 := h4.ins b3
  refine ⟨by rw [h4.1], b5.below t1.hy.le t1.hy.foot, vx, vy1, vz1, sx, sy1, sz1, lx, ly1, lz1, ?_, h2, f1.1, f2.1, fun i hi => ?_, fun i hi => ?_⟩
  · have e1 : (r : Int) + 1 = ((r + 1 : Nat) : Int) := by omega
    have e2 : ((q + r : Nat) : Int) + 1 = ((q + (r + 1) : Nat) : Int) := by omega
    rw [e1, e2] at t2
    exact t2
  · rw [f2.2.2 i (by omega)]; exact h5 i hi
  · by_cases e : i = r
    · rw [e, f1.2.1, f2.2.1]
    · rw [f1.2.2 i (by omega), f2.2.2 (q + i) (by omega)]; exact h6 i (by omega)
/-- Behind Meld: x and z hold the same, i of them. -/
def M3 (B : Nat) (w : World) (X Z i : Nat) : Prop := ∃ vx vz sx sz lx lz, HeapV B w X vx sx lx i ∧ Good sx lx i ∧ HeapV B w Z vz sz lz i ∧ Good sz lz i ∧ Ap X vx Z vz ∧ SameC sx sz
theorem M3.below {i : Nat} (h : M3 B w X Z i) (hb : Below w.heap.size w w') : M3 B w' X Z i := by
  obtain ⟨vx, vz, sx, sz, lx, lz, h1, h2, h3, h4, r⟩ := h
  exact ⟨vx, vz, sx, sz, lx, lz, h1.below hb, h2, h3.below hb, h4, r⟩
theorem M2.meld {q r : Nat} (h : M2 B w X Y Z q r) (hq : q + r < 100000) :
    Calls Try.prog 15 #[.pointer (some ⟨X, 0, none⟩), .pointer (some ⟨Y, 0, none⟩)] w fun e w' => e = .returned (.tuple #[.int .i64 q, .int .i64 0]) ∧ Below B w w' ∧ M3 B w' X Z (q + r) ∧ HeapV B w' Y (.slice none 0 0) hp0 0 0 ∧
      ∀ w2, Tur (FootV Y (.slice none 0 0)) w' w2 → M3 B w2 X Z (q + r) := by
  obtain ⟨vx, vy, vz, sx, sy, sz, lx, ly, lz, h1, h2, h3, h4, h5, h6⟩ := h
  have hne : X ≠ Y := fun e => h1.xy X (.inl rfl) (.inl e)
  refine (meld_ok h1.hx h1.hy h1.gx h1.gy (by rw [h2.1, h3.1]; omega) hne h1.xy.symm).mono ?_
  rintro e w' ⟨rfl, v', a1, a2, a3, a4, a5⟩
  have e1 : (q : Int) + (r : Int) = ((q + r : Nat) : Int) := by omega
  rw [e1] at a1 a2
  obtain ⟨c1, c2, c3⟩ := catS_same sx lx sy ly
  have hz' : HeapV B w' Z vz sz lz ((q + r : Nat) : Int) := h1.hz.at fun i hi => a5.kept i (FootV.lt h1.hz hi) (by
    rintro (g | g)
    · exact h1.xz i g hi
    · exact h1.yz i (.inl g) hi)
  have hap : Ap X v' Z vz := h1.xz.grow h1.hz a4
  have hsame : SameC (sx.catS lx sy ly) sz := by
    refine ⟨fun z => ?_, fun z hz => ?_⟩
    · rw [c3, h4.2 z]
      show (if z < sx.m then sx.th z else sy.th (z - sx.m)) = _
      rw [h2.1]
      split
      · rw [h2.2 z, decide_eq_decide]; omega
      · rw [h3.2, decide_eq_decide]; omega
    · rw [c2]
      rw [c3] at hz
      have hz2 : (if z < sx.m then sx.th z else sy.th (z - sx.m)) = true := hz
      show (if z < sx.m then sx.key z else sy.key (z - sx.m)) = _
      rw [h2.1] at hz2 ⊢
      split
      · rename_i hlt
        exact h5 z hlt
      · rename_i hlt
        rw [if_neg hlt, h3.2] at hz2
        have := of_decide_eq_true hz2
        rw [h6 (z - q) this]
        congr 1
        omega
  have hm3 : M3 B w' X Z (q + r) := ⟨v', vz, _, sz, _, lz, a1, a2, hz', h1.gz, hap, hsame⟩
  have hYX : ∀ i, FootV X v' i → ¬ FootV Y (.slice none 0 0) i := fun i hi hy => by
    rcases hy with g | g
    · rcases a4 i hi with q | q
      · exact h1.xy i q (.inl g)
      · have := h1.hy.ltH; omega
    · cases g
  have hYZ : ∀ i, FootV Z vz i → ¬ FootV Y (.slice none 0 0) i := fun i hi hy => by
    rcases hy with g | g
    · exact h1.yz i (.inl g) hi
    · cases g
  refine ⟨by rw [h2.1], a5.below h1.hx.le (fun k hk => ?_), hm3, a3, fun w2 t2 => ⟨v', vz, _, sz, _, lz, a1.at fun i hi => t2.kept i (FootV.lt a1 hi) (hYX i hi), a2, hz'.at fun i hi => t2.kept i (FootV.lt hz' hi) (hYZ i hi), h1.gz, hap, hsame⟩⟩
  rcases hk with g | g
  · exact h1.hx.foot k g
  · exact h1.hy.foot k (.inl g)
/-- A pop of both. -/
theorem M3.pop {i : Nat} (h : M3 B w X Z (i + 1)) : ∃ (x : Nat) (k : K3), Calls Try.prog 11 #[.pointer (some ⟨X, 0, none⟩)] w fun e w1 => e = .returned (.tuple #[.int .i64 x, keyV k, .int .i64 0]) ∧ Below B w w1 ∧
    ∀ w2, Below w1.heap.size w1 w2 → Calls Try.prog 11 #[.pointer (some ⟨Z, 0, none⟩)] w2 fun e w3 => e = .returned (.tuple #[.int .i64 x, keyV k, .int .i64 0]) ∧ Below B w2 w3 ∧ M3 B w3 X Z i ∧ ∀ p, w1.heap.size ≤ p → p < w2.heap.size → w3.heap[p]? = w2.heap[p]? := by
  obtain ⟨vx, vz, sx, sz, lx, lz, h1, h2, h3, h4, h5, h6⟩ := h
  have ei : ((i + 1 : Nat) : Int) - 1 = (i : Int) := by omega
  obtain ⟨x, tx, hx, kx, hmx, px⟩ := pop_v h1 h2 (by omega)
  obtain ⟨z, tz, hz, kz, hmz, pz⟩ := pop_v h3 h4 (by omega)
  have exz := h6.least tx tz hmx hmz
  subst exz
  have ek : sx.key x = sz.key x := h6.2 x tx
  refine ⟨x, sx.key x, (px w (Below.refl _ _)).mono ?_⟩
  rintro e w1 ⟨rfl, sx1, lx1, a1, a2, a3, a4⟩
  rw [ei] at a1 a2
  have hz1 : HeapV B w1 Z vz sz lz ((i + 1 : Nat) : Int) := h3.at fun j hj => a4.kept j (FootV.lt h3 hj) (h5.symm j hj)
  refine ⟨rfl, a4.below h1.le h1.foot, fun w2 hb => ?_⟩
  obtain ⟨z', tz', hz', kz', hmz', pz'⟩ := pop_v (hz1.below hb) h4 (by omega)
  have e2 := h6.least tx tz' hmx hmz'
  subst e2
  refine (pz' w2 (Below.refl _ _)).mono ?_
  rintro e w3 ⟨rfl, sz1, lz1, b1, b2, b3, b4⟩
  rw [ei] at b1 b2
  refine ⟨by rw [ek], b4.below (hz1.below hb).le (hz1.below hb).foot, ⟨vx, vz, sx1, sz1, lx1, lz1, (a1.below hb).at fun j hj => b4.kept j (FootV.lt (a1.below hb) hj) (h5 j hj), a2, b1, b2, h5, h6.pop a3 b3⟩, fun p hp hp2 => b4.kept p hp2 fun hf => ?_⟩
  have := FootV.lt hz1 hf
  omega
theorem M3.popn (h : M3 B w X Z 0) : Calls Try.prog 11 #[.pointer (some ⟨X, 0, none⟩)] w fun e w1 => e = .returned (.tuple #[.int .i64 0, keyV (0, 0, 0), .int .i64 3]) ∧ Below w.heap.size w w1 ∧
    ∀ w2, Below w1.heap.size w1 w2 → Calls Try.prog 11 #[.pointer (some ⟨Z, 0, none⟩)] w2 fun e w3 => e = .returned (.tuple #[.int .i64 0, keyV (0, 0, 0), .int .i64 3]) ∧ Below w2.heap.size w2 w3 := by
  obtain ⟨vx, vz, sx, sz, lx, lz, h1, h2, h3, h4, h5, h6⟩ := h
  refine (pop_none h1 rfl).mono ?_
  rintro e w1 ⟨rfl, hb1⟩
  exact ⟨rfl, hb1, fun w2 hb => (pop_none ((h3.below hb1).below hb) rfl).mono fun e w3 q => q⟩
theorem M3.len {i : Nat} (h : M3 B w X Z i) : ∀ W, Below w.heap.size w W → (Calls Try.prog 14 #[.pointer (some ⟨X, 0, none⟩)] W fun e w' => e = .returned (.int .i64 i) ∧ W = w') ∧ Calls Try.prog 14 #[.pointer (some ⟨Z, 0, none⟩)] W fun e w' => e = .returned (.int .i64 i) ∧ W = w' := by
  obtain ⟨vx, vz, sx, sz, lx, lz, h1, h2, h3, h4, h5, h6⟩ := h
  exact fun W hb => ⟨len_g (h1.below hb), len_g (h3.below hb)⟩
theorem M3.le {i : Nat} (h : M3 B w X Z i) : B ≤ w.heap.size := by
  obtain ⟨vx, vz, sx, sz, lx, lz, h1, r⟩ := h
  exact h1.le
end Go.Proofs.Ythdbiablpkeagaa
