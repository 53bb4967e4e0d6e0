/- DagReleases, DagFails: a graph and a row beside it; parents that came in as small numbers. -/
import Derived.Test.YtolfioiccmmifaaDyB
import Derived.Test.YtolfioiccmmifaaDyC
namespace Go.Proofs.Ytolfioiccmmifaa
open Go.RowKit
variable {B H n i x id : Nat} {w w' : World} {R R' : Nat → Value} {G G' : Gr} {v : Value} {F : List Nat}
/-- A graph and a row that share no block. -/
structure GF (B : Nat) (w : World) (H : Nat) (R : Nat → Value) (G : Gr) (v : Value) (F : List Nat) : Prop where
  g : GrV B w H R G
  r : w.ownsRow B 2 1 v F.length (rowD F)
  ap : ∀ k, v.ownBlock = some k → ¬ FootD H R k
theorem GF.below (h : GF B w H R G v F) (hb : Below w.heap.size w w') : GF B w' H R G v F := ⟨h.g.below hb, rowN_kept h.r fun b hb2 => hb.block b (h.r.lt b hb2).2, h.ap⟩
theorem GF.graph (h : GF B w H R G v F) (g : GrV B w' H R' G') (gr : GrowD w H R R') (t : Tur (FootD H R) w w') : GF B w' H R' G' v F :=
  ⟨g, rowN_kept h.r fun b hb => t.kept b (h.r.lt b hb).2 (h.ap b hb), fun k hk q => by
    rcases gr k q with q | q
    · exact h.ap k hk q
    · have := (h.r.lt k hk).2; omega⟩
/-- One more is put behind the row. -/
theorem GF.app {cap : Nat} {A : Option Addr} (h : GF B w H R G (.slice A F.length cap) F) (hl : F.length ≤ 100000) (x : Nat) :
    ∃ A' cap' w', (Builtin.append_ #[31, 31] 31 #[.slice A F.length cap, .slice (some ⟨w.heap.size, 0, none⟩) 1 1]).run Try.prog (w.alloc (.cells #[.int .i64 (x : Int)] 2)) = .ok (.slice A' (F.length + 1) cap') w' ∧
      GF B w' H R G (.slice A' (F.length + 1) cap') (F ++ [x]) ∧ Below B w w' ∧ w.grownBy w' (Value.slice A F.length cap).ownBlock ∧ ∀ b, (Value.slice A' (F.length + 1) cap').ownBlock = some b → (Value.slice A F.length cap).ownBlock = some b ∨ w.heap.size ≤ b := by
  have hb0 : Below w.heap.size w (w.alloc (.cells #[.int .i64 (x : Int)] 2)) := (by repeat (first | with_reducible assumption | with_reducible exact Below.refl _ _ | with_reducible refine Below.drew ?_ | with_reducible refine below_drewN ?_ _ | with_reducible refine below_alloc ?_ _ | with_reducible refine Below.alloc ?_ (by first | omega | (simp; done) | (simp; omega)) _ | with_reducible refine Below.setCell ?_ (by first | omega | (simp; done) | (simp; omega)) _ | with_reducible refine below_setRow ?_ (by first | omega | (simp; done) | (simp; omega)) _))
  have h1 := h.below hb0
  have ha : (w.alloc (.cells #[.int .i64 (x : Int)] 2)).heap[w.heap.size]? = some (.cells #[.int .i64 (x : Int)] 2 (0, 0)) := alloc_at w _
  have hsz := hb0.size
  obtain ⟨A', cap', w', happ, hown, hG, hat⟩ := app_src (cap2 := 1) h1.r (slz_one ha) (by omega) h1.g.le
  rw [toZ_snoc] at hown
  have ht : Tur (fun b => (Value.slice A F.length cap).ownBlock = some b) w w' := (Tur.of_below hb0).then (Tur.of_grown hG (fun g hg => .inl hg))
  refine ⟨A', cap', w', happ, ⟨h1.g.at fun k hk => hG.block k (h1.g.foot hk).2 (fun e => h.ap k e.symm hk), by rw [List.length_append]; exact hown, fun k hk q => ?_⟩, ht.below h.g.le (fun k hk => (h.r.lt k hk).1), ?_, fun b hb => (hat b hb).imp _root_.id (fun q => Nat.le_trans hsz q)⟩
  · rcases hat k hk with z | z
    · exact h.ap k z q
    · have := (h1.g.foot q).2; omega
  · exact ⟨ht.os, ht.tape, ht.output, ht.size, fun k hk hne => ht.kept k hk (fun e => hne e.symm)⟩
/-- Rows of small numbers that came in. -/
def SlB (W : World) (A : Option Addr) (n : Nat) : Prop := n = 0 ∨ ∃ b off, A = some ⟨b, off, none⟩ ∧ b < W.heap.size ∧ ∀ k, k < n → ∃ z, W.cell? ⟨b, off + k, none⟩ = some (.int .u8 z) ∧ 0 ≤ z ∧ z ≤ 255
def Sl2 (W : World) (A : Option Addr) (n : Nat) : Prop := n = 0 ∨ ∃ b off, A = some ⟨b, off, none⟩ ∧ b < W.heap.size ∧ ∀ i, i < n → ∃ Ai ni ci, W.cell? ⟨b, off + i, none⟩ = some (.slice Ai ni ci) ∧ ni ≤ maxLen ∧ SlB W Ai ni
theorem Sl2.one {W : World} {A : Option Addr} {n i : Nat} (h : Sl2 W A n) (hi : i < n) : ∃ b off Ai ni ci, A = some ⟨b, off, none⟩ ∧ b < W.heap.size ∧ (∀ wr, Below W.heap.size W wr → wr.cell? ⟨b, off + i, none⟩ = some (.slice Ai ni ci)) ∧ ni ≤ maxLen ∧ SlB W Ai ni := by
  rcases h with h | ⟨b, off, rfl, hl, hc⟩
  · omega
  · obtain ⟨Ai, ni, ci, h1, h2, h3⟩ := hc i hi
    exact ⟨b, off, Ai, ni, ci, rfl, hl, fun wr hb => (hb.cell hl).trans h1, h2, h3⟩
theorem SlB.one {W : World} {A : Option Addr} {n k : Nat} (h : SlB W A n) (hk : k < n) : ∃ b off z, A = some ⟨b, off, none⟩ ∧ b < W.heap.size ∧ (∀ wr, Below W.heap.size W wr → wr.cell? ⟨b, off + k, none⟩ = some (.int .u8 z)) ∧ 0 ≤ z ∧ z ≤ 255 := by
  rcases h with h | ⟨b, off, rfl, hl, hc⟩
  · omega
  · obtain ⟨z, h1, h2, h3⟩ := hc k hk
    exact ⟨b, off, z, rfl, hl, fun wr hb => (hb.cell hl).trans h1, h2, h3⟩
/-- The parents of the next job, as far as they are gathered. -/
def Pz (b : Nat) (wr : World) (v : Value) (zs : List Int) (i k : Nat) : Prop := wr.ownsRow b 2 1 v zs.length (rowZ zs) ∧ (∀ z ∈ zs, 1 ≤ z ∧ z ≤ (i : Int)) ∧ zs.length = k
theorem Pz.start (b : Nat) (wr : World) (i : Nat) : Pz b wr (.slice none 0 0) [] i 0 := ⟨World.ownsRow_nil _ _ _ _, (fun _ h => nomatch h), rfl⟩
theorem Pz.app {b i k cap : Nat} {wr : World} {A : Option Addr} {zs : List Int} {z : Int} (h : Pz b wr (.slice A k cap) zs i k) (hk : k ≤ 100) (hz : 1 ≤ z ∧ z ≤ (i : Int)) (hb : b ≤ wr.heap.size) :
    ∃ A' cap' w', (Builtin.append_ #[31, 31] 31 #[.slice A k cap, .slice (some ⟨wr.heap.size, 0, none⟩) 1 1]).run Try.prog (wr.alloc (.cells #[.int .i64 z] 2)) = .ok (.slice A' (k + 1) cap') w' ∧ Pz b w' (.slice A' (k + 1) cap') (zs ++ [z]) i (k + 1) ∧ Below b wr w' := by
  obtain ⟨h1, h2, h3⟩ := h
  rw [h3] at h1
  have ha : (wr.alloc (.cells #[.int .i64 z] 2)).heap[wr.heap.size]? = some (.cells #[.int .i64 z] 2 (0, 0)) := alloc_at wr _
  obtain ⟨A', cap', w', happ, hown, hG, hat⟩ := app_src (cap2 := 1) (h1.alloc (.cells #[.int .i64 z] 2)) (slz_one ha) (by omega) (by simp; omega)
  refine ⟨A', cap', w', happ, ⟨by rw [List.length_append, h3]; exact hown, fun y hy => ?_, by simp [h3]⟩, ?_⟩
  · rw [List.mem_append, List.mem_singleton] at hy
    rcases hy with hy | rfl
    · exact h2 y hy
    · exact hz
  · have t : Tur (fun g => (Value.slice A k cap).ownBlock = some g) wr w' := (Tur.of_below (w' := wr.alloc (.cells #[.int .i64 z] 2)) (by repeat (first | with_reducible assumption | with_reducible exact Below.refl _ _ | with_reducible refine Below.drew ?_ | with_reducible refine below_drewN ?_ _ | with_reducible refine below_alloc ?_ _ | with_reducible refine Below.alloc ?_ (by first | omega | (simp; done) | (simp; omega)) _ | with_reducible refine Below.setCell ?_ (by first | omega | (simp; done) | (simp; omega)) _ | with_reducible refine below_setRow ?_ (by first | omega | (simp; done) | (simp; omega)) _))).then (Tur.of_grown hG (fun g hg => .inl hg))
    exact t.below hb (fun g hg => (h1.lt g hg).1)
theorem Pz.slz {b i k cap : Nat} {wr : World} {A : Option Addr} {zs : List Int} (h : Pz b wr (.slice A k cap) zs i k) : SlZ wr A k zs := by
  obtain ⟨h1, -, h3⟩ := h
  rw [h3] at h1
  exact slz_row h1
/-- The next job is added. -/
theorem Low.addC {b H i k cap : Nat} {wr : World} {R : Nat → Value} {G : Gr} {A : Option Addr} {zs : List Int} (h : Low i G) (g : GrV b wr H R G) (hi : i < 100) (hs : SlZ wr A k zs) (hk : k ≤ 5) (hz : ∀ z ∈ zs, 1 ≤ z ∧ z ≤ (i : Int)) :
    Calls Try.prog 11 #[.pointer (some ⟨H, 0, none⟩), .int .i64 ((i : Int) + 1), .slice A k cap] wr fun e w' => e = .returned (.tuple #[.bool (decide (k = 0)), .int .i64 0]) ∧ (∃ R', GrV b w' H R' (G.add (i + 1) (dd zs)) ∧ GrowD wr H R R') ∧ Tur (FootD H R) wr w' ∧ Low (i + 1) (G.add (i + 1) (dd zs)) := by
  have hF := h.fit hi hz
  have := add_fit (cap := cap) g h.ok hs (by omega) (fun z q => by have := hz z q; exact ⟨by omega, by omega⟩) hF
  rw [show ((i + 1 : Nat) : Int) = (i : Int) + 1 by omega] at this
  refine this.mono ?_
  rintro e w' ⟨rfl, h1, h2⟩
  refine ⟨?_, h1, h2, h.next hi hz⟩
  have hc := h.cnt (by omega) hz
  have hl := hs.1
  have e : decide (G.cntN (dd zs) = 0) = decide (k = 0) := by
    rw [decide_eq_decide, hc]
    constructor
    · rintro rfl; exact hl
    · intro q; subst q; exact List.eq_nil_of_length_eq_zero hl.symm
  rw [e]
theorem dd_null {zs : List Int} {k i : Nat} (hl : k = zs.length) (hi : i ≤ 100) (hz : ∀ z ∈ zs, 1 ≤ z ∧ z ≤ (i : Int)) : dd zs = [] ↔ k = 0 := by
  constructor
  · intro h
    cases zs with
    | nil => simpa using hl
    | cons z t =>
      exfalso
      have h1 := hz z (by simp)
      have hm : z.toNat ∈ dd (z :: t) := dd_mem.2 ⟨by omega, by rw [show ((z.toNat : Nat) : Int) = z by omega]; simp⟩
      rw [h] at hm; cases hm
  · rintro rfl
    rw [List.eq_nil_of_length_eq_zero hl.symm]
    exact dd_nil
theorem free_ne {G : Gr} {x : Nat} (hx : G.free x) : G.st x ≠ 0 := by rw [hx.1]; omega
theorem freeZ_nat (_h : GrV B w H R G) (ok : G.Ok) {x : Nat} (hf : G.free x) : G.freeZ (x : Int) := by
  have hr := ok.rng x (free_ne hf)
  have e : (x : Int).toNat = x := by omega
  refine ⟨⟨⟨by omega, by omega⟩, ?_⟩, ?_, ?_⟩
  · rw [e]; exact free_ne hf
  · rw [e]; exact hf.1
  · rw [e]; exact hf.2
theorem done_ok (h : GrV B w H R G) (ok : G.Ok) {x : Nat} (hf : G.free x) : Calls Try.prog 15 #[.pointer (some ⟨H, 0, none⟩), .int .i64 x] w fun e w' => ∃ v', e = .returned (.tuple #[v', .int .i64 0]) ∧ w'.ownsRow w.heap.size 2 1 v' (G.doneL x).length (rowD (G.doneL x)) ∧ GrV B w' H R (G.done x) ∧ Tur (FootD H R) w w' := by
  have e : (x : Int).toNat = x := by omega
  have hz := freeZ_nat h ok hf
  refine (done_g h ok (x : Int)).mono ?_
  intro q w' hp
  cases hp with
  | none h1 => exact absurd hz.1 h1
  | state _ h1 => exact absurd hz h1
  | ok _ h1 h2 h3 =>
    rw [e] at h1 h2
    obtain ⟨v', h4, h5⟩ := h1
    exact ⟨v', h4, h5, h2, h3⟩
theorem free_yes (h : GrV B w H R G) (ok : G.Ok) {x : Nat} (hf : G.free x) : Calls Try.prog 16 #[.pointer (some ⟨H, 0, none⟩), .int .i64 x] w fun e w' => e = .returned (.bool true) ∧ Below w.heap.size w w' := by
  have := free_g h (x : Int)
  rw [show G.freeB (x : Int) = true from decide_eq_true (freeZ_nat h ok hf)] at this
  exact this
/-- The fourth loop: what is free now is put behind the row. -/
structure Rd (b : Nat) (w wr : World) (H : Nat) (R : Nat → Value) (G : Gr) (v u : Value) (M L : List Nat) : Prop where
  gf : GF b wr H R G v M
  l : wr.ownsRow b 2 1 u L.length (rowD L)
  ap : ∀ g, u.ownBlock = some g → v.ownBlock ≠ some g
  bel : Below b w wr
theorem Rd.below {b : Nat} {wr : World} {u : Value} {M L : List Nat} (h : Rd b w wr H R G v u M L) (hb : Below wr.heap.size wr w') : Rd b w w' H R G v u M L :=
  ⟨h.gf.below hb, rowN_kept h.l fun g hg => hb.block g (h.l.lt g hg).2, h.ap, h.bel.trans (hb.mono h.gf.g.le)⟩
theorem Rd.app {b cap y : Nat} {wr : World} {A : Option Addr} {u : Value} {M L : List Nat} (h : Rd b w wr H R G (.slice A M.length cap) u M L) (hl : M.length ≤ 100000) :
    ∃ A' cap' w', (Builtin.append_ #[31, 31] 31 #[.slice A M.length cap, .slice (some ⟨wr.heap.size, 0, none⟩) 1 1]).run Try.prog (wr.alloc (.cells #[.int .i64 (y : Int)] 2)) = .ok (.slice A' (M.length + 1) cap') w' ∧ Rd b w w' H R G (.slice A' (M.length + 1) cap') u (M ++ [y]) L := by
  obtain ⟨A', cap', w', happ, h2, hb2, hg, hat⟩ := h.gf.app hl y
  refine ⟨A', cap', w', happ, ⟨h2, rowN_kept h.l fun g hg2 => hg.block g (h.l.lt g hg2).2 (fun e => h.ap g hg2 e.symm), fun g hg2 e => ?_, h.bel.trans hb2⟩⟩
  rcases hat g e with q | q
  · exact h.ap g hg2 q
  · have := (h.l.lt g hg2).2; omega
end Go.Proofs.Ytolfioiccmmifaa
