/- DagPlays: the graph and its reference side by side. -/
import Derived.Test.YtolfioiccmmifaaDrG
import Derived.Test.YtolfioiccmmifaaDrI
import Derived.Test.YtolfioiccmmifaaDgH
namespace Go.Proofs.Ytolfioiccmmifaa
open Go.RowKit
variable {B H H2 : Nat} {Q : Nat → Prop} {w w' : World} {R R' : Nat → Value} {v v' : Value} {P P' : Nat → Value} {G G' G2 G2' : Gr} {J J' : List Nat}
def FootR (H : Nat) (v : Value) (P : Nat → Value) (J : List Nat) (k : Nat) : Prop := FootW H v k ∨ ∃ x, x ∈ J ∧ (P x).ownBlock = some k
theorem RefJ.foot (h : RefJ B w H v P G J) {k : Nat} (hk : FootR H v P J k) : B ≤ k ∧ k < w.heap.size := by
  rcases hk with (rfl | e) | ⟨x, hx, e⟩
  · exact ⟨h.hB, h.ltH⟩
  · exact h.row.lt k e
  · exact (h.par x hx).lt k e
/-- Nothing of Q is turned. -/
def Kp (Q : Nat → Prop) (w w' : World) : Prop := Tur (fun k => ¬ Q k) w w'
def Qx (Q : Nat → Prop) (a b : Nat) (k : Nat) : Prop := Q k ∨ (a ≤ k ∧ k < b)
theorem Kp.of_below (hb : Below w.heap.size w w') : Kp Q w w' := Tur.of_below hb
theorem Kp.trans {w2 : World} (h : Kp Q w w2) (k : Kp Q w2 w') : Kp Q w w' := Tur.then h k
theorem Kp.lessT {Q' : Nat → Prop} (h : Kp Q w w') (hq : ∀ k, Q' k → Q k) : Kp Q' w w' := Tur.mono h fun k hk => .inl fun q => hk (hq k q)
theorem Kp.at (h : Kp Q w w') {k : Nat} (hk : k < w.heap.size) (hq : Q k) : w'.heap[k]? = w.heap[k]? := Tur.kept h k hk (fun q => q hq)
theorem qx_le {a b : Nat} : ∀ k, Q k → Qx Q a b k := fun _ h => .inl h
/-- The graph and the reference's, with no block of each other's nor of Q. -/
structure Du (B : Nat) (w : World) (H : Nat) (R : Nat → Value) (G : Gr) (H2 : Nat) (v : Value) (P : Nat → Value) (G2 : Gr) (J : List Nat) (Q : Nat → Prop) : Prop where
  g : GrV B w H R G
  r : RefJ B w H2 v P G2 J
  ap : ∀ k, FootD H R k → ¬ FootR H2 v P J k
  ql : ∀ k, Q k → k < w.heap.size
  qg : ∀ k, Q k → ¬ FootD H R k
  qr : ∀ k, Q k → ¬ FootR H2 v P J k
theorem Du.below (h : Du B w H R G H2 v P G2 J Q) (hb : Below w.heap.size w w') : Du B w' H R G H2 v P G2 J (Qx Q w.heap.size w'.heap.size) :=
  ⟨h.g.below hb, h.r.below hb, h.ap, fun k hk => by
    rcases hk with q | q
    · exact Nat.lt_of_lt_of_le (h.ql k q) hb.size
    · exact q.2, fun k hk hf => by
    rcases hk with q | q
    · exact h.qg k q hf
    · have := (h.g.foot hf).2; omega, fun k hk hf => by
    rcases hk with q | q
    · exact h.qr k q hf
    · have := (h.r.foot hf).2; omega⟩
theorem Du.less {Q' : Nat → Prop} (h : Du B w H R G H2 v P G2 J Q) (hq : ∀ k, Q' k → Q k) : Du B w H R G H2 v P G2 J Q' :=
  ⟨h.g, h.r, h.ap, fun k q => h.ql k (hq k q), fun k q => h.qg k (hq k q), fun k q => h.qr k (hq k q)⟩
theorem Du.graph (h : Du B w H R G H2 v P G2 J Q) (g : GrV B w' H R' G') (gr : GrowD w H R R') (t : Tur (FootD H R) w w') : Du B w' H R' G' H2 v P G2 J Q ∧ Kp Q w w' := by
  refine ⟨⟨g, h.r.at (fun k hk => t.kept k (h.r.foot (.inl hk)).2 (fun q => h.ap k q (.inl hk))) (fun x hx k hk => t.kept k (h.r.foot (.inr ⟨x, hx, hk⟩)).2 (fun q => h.ap k q (.inr ⟨x, hx, hk⟩))), fun k hk hf => ?_, fun k hk => Nat.lt_of_lt_of_le (h.ql k hk) t.size, fun k hq hf => ?_, h.qr⟩, t.mono fun k hk => .inl fun q => h.qg k q hk⟩
  · rcases gr k hk with q | q
    · exact h.ap k q hf
    · have := (h.r.foot hf).2; omega
  · rcases gr k hf with q | q
    · exact h.qg k hq q
    · have := h.ql k hq; omega
theorem Du.ref (h : Du B w H R G H2 v P G2 J Q) (r : RefJ B w' H2 v' P' G2' J') (gr : ∀ k, FootR H2 v' P' J' k → FootR H2 v P J k ∨ w.heap.size ≤ k) (t : Tur (FootW H2 v) w w') : Du B w' H R G H2 v' P' G2' J' Q ∧ Kp Q w w' := by
  refine ⟨⟨h.g.at fun k hk => t.kept k (h.g.foot hk).2 (fun q => h.ap k hk (.inl q)), r, fun k hk hf => ?_, fun k hk => Nat.lt_of_lt_of_le (h.ql k hk) t.size, h.qg, fun k hq hf => ?_⟩, t.mono fun k hk => .inl fun q => h.qr k q (.inl hk)⟩
  · rcases gr k hf with q | q
    · exact h.ap k hk q
    · have := (h.g.foot hk).2; omega
  · rcases gr k hf with q | q
    · exact h.qr k hq q
    · have := h.ql k hq; omega
/-- Both hold the same. -/
def D3 (B : Nat) (w : World) (H H2 : Nat) (Q : Nat → Prop) : Prop := ∃ R v P G J, Du B w H R G H2 v P G J Q ∧ G.Ok ∧ J.Pairwise (· < ·) ∧ ∀ x, x ∈ J ↔ G.st x ≠ 0
theorem D3.below (h : D3 B w H H2 Q) (hb : Below w.heap.size w w') : D3 B w' H H2 (Qx Q w.heap.size w'.heap.size) := by
  obtain ⟨R, v, P, G, J, h, r⟩ := h
  exact ⟨R, v, P, G, J, h.below hb, r⟩
theorem D3.less {Q' : Nat → Prop} (h : D3 B w H H2 Q) (hq : ∀ k, Q' k → Q k) : D3 B w H H2 Q' := by
  obtain ⟨R, v, P, G, J, h, r⟩ := h
  exact ⟨R, v, P, G, J, h.less hq, r⟩
/-- The program's call answers a truth and an error, and behind it the reference's the same. -/
def BothA (Q : Nat → Prop) (f : FuncId) (x : Array Value) (g : FuncId) (y : Array Value) (w : World) (F : (Nat → Prop) → World → Prop) : Prop :=
  Calls Try.prog f x w fun e w1 => ∃ (a : Bool) (z : Int), e = .returned (.tuple #[.bool a, .int .i64 z]) ∧ Kp Q w w1 ∧ w.heap.size ≤ w1.heap.size ∧ ∀ w2, Below w1.heap.size w1 w2 → Calls Try.prog g y w2 fun e w3 => e = .returned (.tuple #[.bool a, .int .i64 z]) ∧ Kp (Qx Q w1.heap.size w2.heap.size) w2 w3 ∧ w2.heap.size ≤ w3.heap.size ∧ F (Qx Q w1.heap.size w2.heap.size) w3
/-- The program's call answers a list and an error, and behind it the reference's the same. -/
def BothL (Q : Nat → Prop) (f : FuncId) (x : Array Value) (g : FuncId) (y : Array Value) (w : World) (F : (Nat → Prop) → World → Prop) : Prop :=
  Calls Try.prog f x w fun e w1 => ∃ (A : Option Addr) (n c : Nat) (z : Int) (l : List Int), e = .returned (.tuple #[.slice A n c, .int .i64 z]) ∧ n ≤ 100 ∧ Kp Q w w1 ∧ w.heap.size ≤ w1.heap.size ∧ ∀ w2, Below w1.heap.size w1 w2 → Calls Try.prog g y w2 fun e w3 => ∃ (A2 : Option Addr) (n2 c2 : Nat), e = .returned (.tuple #[.slice A2 n2 c2, .int .i64 z]) ∧ SlZ w3 A n l ∧ SlZ w3 A2 n2 l ∧ Kp (Qx Q w1.heap.size w2.heap.size) w2 w3 ∧ w2.heap.size ≤ w3.heap.size ∧ F (Qx Q w1.heap.size w2.heap.size) w3
theorem qx_tr {a b c d : Nat} (h1 : a ≤ b) (h2 : c ≤ d) : ∀ k, Qx Q b c k → Qx Q a d k := fun k hk => by
  rcases hk with q | q
  · exact .inl q
  · exact .inr ⟨by omega, by omega⟩
theorem D3.two {w1 w2 : World} (h : D3 B w H H2 Q) (b1 : Below w.heap.size w w1) (b2 : Below w1.heap.size w1 w2) : D3 B w2 H H2 (Qx Q w1.heap.size w2.heap.size) :=
  (h.below (b1.trans (b2.mono b1.size))).less (qx_tr b1.size (Nat.le_refl _))
theorem Du.two {w1 w2 : World} (h : Du B w H R G H2 v P G2 J Q) (b1 : Below w.heap.size w w1) (b2 : Below w1.heap.size w1 w2) : Du B w2 H R G H2 v P G2 J (Qx Q w1.heap.size w2.heap.size) :=
  (h.below (b1.trans (b2.mono b1.size))).less (qx_tr b1.size (Nat.le_refl _))
theorem slz_nil (w : World) : SlZ w none 0 [] := ⟨rfl, .inl rfl⟩
/-- Both are left as they were, and answer lists. -/
theorem bothL_still {f g : FuncId} {x y : Array Value} {z : Int} {l : List Int} (h : D3 B w H H2 Q)
    (c1 : Calls Try.prog f x w fun e w1 => ∃ A n c, e = .returned (.tuple #[.slice A n c, .int .i64 z]) ∧ n ≤ 100 ∧ SlZ w1 A n l ∧ Below w.heap.size w w1)
    (c2 : ∀ W, Below w.heap.size w W → Calls Try.prog g y W fun e w1 => ∃ A n c, e = .returned (.tuple #[.slice A n c, .int .i64 z]) ∧ SlZ w1 A n l ∧ Below W.heap.size W w1) : BothL Q f x g y w fun q w3 => D3 B w3 H H2 q := by
  refine c1.mono ?_
  rintro e w1 ⟨A, n, c, rfl, hn, s1, b1⟩
  refine ⟨A, n, c, z, l, rfl, hn, Kp.of_below b1, b1.size, fun w2 b2 => (c2 w2 (b1.trans (b2.mono b1.size))).mono ?_⟩
  rintro e w3 ⟨A2, n2, c2, rfl, s2, b3⟩
  refine ⟨A2, n2, c2, rfl, (s1.below b2).below b3, s2, Kp.of_below b3, b3.size, ?_⟩
  exact ((h.two b1 b2).below b3).less qx_le
theorem bothL_nil {f g : FuncId} {x y : Array Value} {z : Int} (h : D3 B w H H2 Q)
    (c1 : Calls Try.prog f x w fun e w1 => e = .returned (.tuple #[.slice none 0 0, .int .i64 z]) ∧ Below w.heap.size w w1)
    (c2 : ∀ W, Below w.heap.size w W → Calls Try.prog g y W fun e w1 => e = .returned (.tuple #[.slice none 0 0, .int .i64 z]) ∧ Below W.heap.size W w1) : BothL Q f x g y w fun q w3 => D3 B w3 H H2 q :=
  bothL_still (l := []) h (c1.mono fun e w1 ⟨e1, b1⟩ => ⟨none, 0, 0, e1, by omega, slz_nil _, b1⟩) (fun W hb => (c2 W hb).mono fun e w1 ⟨e1, b1⟩ => ⟨none, 0, 0, e1, slz_nil _, b1⟩)
/-- A row that was made stands under whatever the reference turns. -/
theorem row_stays {n : Nat} {A : Option Addr} {c : Nat} {zs : List Int} {w1 w2 w3 : World} {b : Nat} (h : w1.ownsRow b 2 1 (.slice A n c) n (rowZ zs)) (b2 : Below w1.heap.size w1 w2) (t : Tur (FootW H2 v) w2 w3) (hf : ∀ k, FootW H2 v k → k < b) : SlZ w3 A n zs := by
  have h2 : w2.ownsRow b 2 1 (.slice A n c) n (rowZ zs) := rowN_kept h fun k hk => b2.block k (h.lt k hk).2
  exact slz_row (rowN_kept h2 fun k hk => t.kept k (h2.lt k hk).2 (fun q => by have := (h2.lt k hk).1; have := hf k q; omega))
theorem has_mem (ok : G.Ok) (mem : ∀ x, x ∈ J ↔ G.st x ≠ 0) (id : Int) : G.has id ↔ ∃ y ∈ J, id = ((y : Nat) : Int) := by
  constructor
  · rintro ⟨h1, h2⟩
    exact ⟨id.toNat, (mem _).2 h2, by have := h1.1; omega⟩
  · rintro ⟨y, hy, rfl⟩
    have := ok.rng y ((mem y).1 hy)
    exact ⟨⟨by omega, by omega⟩, by rw [show ((y : Int).toNat) = y by omega]; exact (mem y).1 hy⟩
theorem fr_free (ok : G.Ok) (mem : ∀ x, x ∈ J ↔ G.st x ≠ 0) (x : Nat) : G.frR J (x : Int) ↔ G.free x := by
  rw [ok.free]
  constructor
  · rintro ⟨y, hy, e, h1, h2⟩
    have : y = x := by omega
    subst this
    exact ⟨h1, fun p hp => (h2 p hp).2⟩
  · rintro ⟨h1, h2⟩
    exact ⟨x, (mem x).2 (by omega), rfl, h1, fun p hp => ⟨(mem p).2 (by rw [h2 p hp]; omega), h2 p hp⟩⟩
theorem fr_freeZ (ok : G.Ok) (mem : ∀ x, x ∈ J ↔ G.st x ≠ 0) (x : Int) : G.frR J x ↔ G.freeZ x := by
  constructor
  · intro h
    obtain ⟨y, hy, rfl, -⟩ := id h
    have hf := (fr_free ok mem y).1 h
    have e : (y : Int).toNat = y := by omega
    exact ⟨(has_mem ok mem _).2 ⟨y, hy, rfl⟩, by rw [e]; exact hf.1, by rw [e]; exact hf.2⟩
  · rintro ⟨h1, h2, h3⟩
    obtain ⟨y, hy, rfl⟩ := (has_mem ok mem _).1 h1
    have e : (y : Int).toNat = y := by omega
    rw [e] at h2 h3
    exact (fr_free ok mem y).2 ⟨h2, h3⟩
/-- What the list of jobs finds free by y's end is what the graph finds. -/
theorem new_done (ok : G.Ok) (rise : J.Pairwise (· < ·)) (mem : ∀ x, x ∈ J ↔ G.st x ≠ 0) {y : Nat} (hf : G.free y) : J.filter (G.newF J y) = G.doneL y := by
  have okd := ok.done hf
  have memd : ∀ x, x ∈ J ↔ (G.done y).st x ≠ 0 := fun x => by
    rw [mem x]
    show _ ↔ upd G.st y 2 x ≠ 0
    by_cases e : x = y
    · subst e; rw [upd_same, hf.1]; simp
    · rw [upd_ne _ _ e]
  have hput : ∀ x : Nat, (G.put y 2).frR J (x : Int) ↔ (G.done y).free x := fun x => fr_free (G := G.done y) okd memd x
  refine pick_of (rise.filter _) fun x => ?_
  rw [List.mem_filter]
  unfold Gr.newF Gr.dnow
  rw [Bool.and_eq_true, Bool.not_eq_true', decide_eq_false_iff_not, decide_eq_true_eq, decide_eq_true_eq, fr_free ok mem, hput]
  have est : (G.done y).st x = if x = y then 2 else G.st x := rfl
  have epe : (G.done y).pe x = if x ∈ G.ch y then G.pe x - 1 else G.pe x := rfl
  unfold Gr.free
  rw [est, epe]
  constructor
  · rintro ⟨hx, h1, h2, h3⟩
    have hxy : x ≠ y := fun e => by rw [if_pos e] at h2; omega
    rw [if_neg hxy] at h2
    have hr := ok.rng x (by omega)
    by_cases hc : x ∈ G.ch y
    · rw [if_pos hc] at h3
      exact ⟨hr.2, hc, h2, by omega⟩
    · rw [if_neg hc] at h3
      exact absurd ⟨h2, h3⟩ h1
  · rintro ⟨h0, hc, h2, h3⟩
    have hxy : x ≠ y := fun e => by have := hf.2; rw [← e] at this; omega
    rw [if_neg hxy, if_pos hc]
    exact ⟨(mem x).2 (by omega), fun q => by have := q.2; omega, h2, by omega⟩
theorem goes_fail (ok : G.Ok) (rise : J.Pairwise (· < ·)) (mem : ∀ x, x ∈ J ↔ G.st x ≠ 0) (y : Nat) : J.filter (G.goes y) = G.failL y := by
  refine pick_of (rise.filter _) fun x => ?_
  rw [List.mem_filter]
  constructor
  · rintro ⟨hx, h⟩
    by_cases q : x ≠ y ∧ G.st x = 1 ∧ G.Rch y x
    · exact ⟨(ok.rng x ((mem x).1 hx)).2, q.2.2, q.2.1⟩
    · rw [goes_no q] at h; cases h
  · rintro ⟨-, h1, h2⟩
    exact ⟨(mem x).2 (by omega), goes_yes ⟨fun e => ok.acy y (e ▸ h1), h2, h1⟩⟩
end Go.Proofs.Ytolfioiccmmifaa
