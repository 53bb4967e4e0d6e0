/- DagPlays: each call on the graph and on its reference answers alike. -/
import Derived.Test.YtolfioiccmmifaaDpA
namespace Go.Proofs.Ytolfioiccmmifaa
open Go.RowKit
variable {B H H2 : Nat} {Q : Nat → Prop} {w w' : World} {R R' : Nat → Value} {v v' : Value} {P P' : Nat → Value} {G G' G2 G2' : Gr} {J J' : List Nat}
theorem Kp.refl (w : World) : Kp Q w w := Tur.refl _ _
theorem D3.add (h : D3 B w H H2 Q) (id : Int) {A A2 : Option Addr} {n n2 c c2 : Nat} {zs : List Int} (hs : ∀ W, Kp Q w W → SlZ W A n zs) (hs2 : ∀ W, Kp Q w W → SlZ W A2 n2 zs) (hn : n ≤ 100000) :
    BothA Q 11 #[.pointer (some ⟨H, 0, none⟩), .int .i64 id, .slice A n c] 20 #[.pointer (some ⟨H2, 0, none⟩), .int .i64 id, .slice A2 n2 c2] w fun q w3 => D3 B w3 H H2 q := by
  obtain ⟨R, v, P, G, J, h, ok, rise, mem⟩ := h
  have hn2 : n2 ≤ 100000 := by have h1 := (hs w (Kp.refl w)).1; have h2 := (hs2 w (Kp.refl w)).1; omega
  refine (add_g (cap := c) h.g ok id (hs w (Kp.refl w)) hn).mono ?_
  intro e w1 hp
  have still : ∀ (z : Int) (W : World), Below w.heap.size w w1 → Below w1.heap.size w1 W → Calls Try.prog 20 #[.pointer (some ⟨H2, 0, none⟩), .int .i64 id, .slice A2 n2 c2] W fun e w' => AddR B H2 W v P G J id zs e w' :=
    fun z W b1 b2 => radd_g id (h.two b1 b2).r rise ok mem (hs2 W ((Kp.of_below b1).trans (Kp.of_below b2))) hn2
  cases hp with
  | range h1 he hb =>
    subst he
    refine ⟨false, 2, rfl, Kp.of_below hb, hb.size, fun w2 b2 => (still 0 w2 hb b2).mono ?_⟩
    intro e w3 hr
    cases hr with
    | range g1 ge gb => exact ⟨ge, Kp.of_below gb, gb.size, R, v, P, G, J, ((h.two hb b2).below gb).less qx_le, ok, rise, mem⟩
    | twice g1 | cycle g1 | state g1 | ok g1 => exact absurd g1 h1
  | twice h1 h2 he hb =>
    subst he
    refine ⟨false, 5, rfl, Kp.of_below hb, hb.size, fun w2 b2 => (still 0 w2 hb b2).mono ?_⟩
    intro e w3 hr
    cases hr with
    | range g1 => exact absurd h1 g1
    | twice g1 g2 ge gb => exact ⟨ge, Kp.of_below gb, gb.size, R, v, P, G, J, ((h.two hb b2).below gb).less qx_le, ok, rise, mem⟩
    | cycle g1 g2 | state g1 g2 => exact absurd g2 h2
    | ok g1 g2 => exact absurd g2.ab h2
  | cycle h1 h2 h3 he hb =>
    subst he
    refine ⟨false, 8, rfl, Kp.of_below hb, hb.size, fun w2 b2 => (still 0 w2 hb b2).mono ?_⟩
    intro e w3 hr
    obtain ⟨p, hp, hq⟩ := h3
    cases hr with
    | range g1 => exact absurd h1 g1
    | twice g1 g2 => exact absurd h2 g2
    | cycle g1 g2 g3 ge gb => exact ⟨ge, Kp.of_below gb, gb.size, R, v, P, G, J, ((h.two hb b2).below gb).less qx_le, ok, rise, mem⟩
    | state g1 g2 g3 =>
      rcases hq with q | q
      · exact absurd q (g3 p hp).1
      · exact absurd q (g3 p hp).2
    | ok g1 g2 =>
      rcases hq with q | q
      · exact absurd q (g2.cy p hp).1
      · exact absurd q (g2.cy p hp).2
  | state h1 h2 h3 h4 he hb =>
    subst he
    refine ⟨false, 10, rfl, Kp.of_below hb, hb.size, fun w2 b2 => (still 0 w2 hb b2).mono ?_⟩
    intro e w3 hr
    cases hr with
    | range g1 => exact absurd h1 g1
    | twice g1 g2 => exact absurd h2 g2
    | cycle g1 g2 g3 =>
      obtain ⟨p, hp, hq⟩ := g3
      rcases hq with q | q
      · exact absurd q (h3 p hp).1
      · exact absurd q (h3 p hp).2
    | state g1 g2 g3 g4 ge gb => exact ⟨ge, Kp.of_below gb, gb.size, R, v, P, G, J, ((h.two hb b2).below gb).less qx_le, ok, rise, mem⟩
    | ok g1 g2 =>
      obtain ⟨p, hp, hq⟩ := h4
      exact absurd hq (g2.fa p hp)
  | ok h1 hf he hg t =>
    subst he
    obtain ⟨R', g', gr⟩ := hg
    obtain ⟨p1, k1⟩ := h.graph g' gr t
    refine ⟨_, 0, rfl, k1, t.size, fun w2 b2 => ?_⟩
    have p2 := p1.below b2
    refine (radd_g (c := c2) id p2.r rise ok mem (hs2 w2 (k1.trans (Kp.of_below b2))) hn2).mono ?_
    intro e w3 hr
    cases hr with
    | range g1 => exact absurd h1 g1
    | twice g1 g2 => exact absurd hf.ab g2
    | cycle g1 g2 g3 =>
      obtain ⟨p, hp, hq⟩ := g3
      rcases hq with q | q
      · exact absurd q (hf.cy p hp).1
      · exact absurd q (hf.cy p hp).2
    | state g1 g2 g3 g4 =>
      obtain ⟨p, hp, hq⟩ := g4
      exact absurd hq (hf.fa p hp)
    | ok g1 g2 ge gg t2 =>
      obtain ⟨v', P', J', r', rise', mem', gr', grP⟩ := gg
      obtain ⟨p3, k3⟩ := p2.ref r' (fun k hk => by
        rcases hk with q | ⟨x, hx, q⟩
        · exact (gr' k q).imp .inl _root_.id
        · rcases grP x hx with ⟨q2, q3⟩ | q2
          · exact .inl (.inr ⟨x, q2, by rw [← q3]; exact q⟩)
          · exact .inr (q2 k q)) t2
      exact ⟨ge, k3, t2.size, R', v', P', _, J', p3, ok.add hf, rise', mem'⟩
theorem D3.parents (h : D3 B w H H2 Q) (id : Int) : BothL Q 13 #[.pointer (some ⟨H, 0, none⟩), .int .i64 id] 22 #[.pointer (some ⟨H2, 0, none⟩), .int .i64 id] w fun q w3 => D3 B w3 H H2 q := by
  have h3 := h
  obtain ⟨R, v, P, G, J, h, ok, rise, mem⟩ := h
  have hJ : J.length ≤ 100 := len100 (nodup_of_lt rise) fun x hx => ok.rng x ((mem x).1 hx)
  by_cases hx : G.has id
  · obtain ⟨y, hy, rfl⟩ := (has_mem ok mem id).1 hx
    have hr := ok.rng y ((mem y).1 hy)
    refine bothL_still (z := 0) (l := toZ (G.pa y)) h3 ((parents_yes h.g ok hr.1 hr.2 ((mem y).1 hy)).mono ?_) fun W hb => (rparents_yes (h.r.below hb) (by omega) (nodup_of_lt rise) hy).mono ?_
    · rintro e w1 ⟨⟨v1, rfl, hrow⟩, b1⟩
      obtain ⟨A, c, rfl⟩ := row_shape hrow
      exact ⟨A, _, c, rfl, ok.pal y, slz_row hrow, b1⟩
    · rintro e w1 ⟨rfl, b1⟩
      have hrow := ((h.r.below hb).below b1).par y hy
      obtain ⟨A, c, e⟩ := row_shape hrow
      rw [e] at hrow ⊢
      exact ⟨A, _, c, rfl, slz_row hrow, b1⟩
  · have hno : ∀ y ∈ J, ((y : Nat) : Int) ≠ id := fun y hy e => hx ((has_mem ok mem id).2 ⟨y, hy, e.symm⟩)
    exact bothL_nil h3 (parents_no h.g id hx) fun W hb => rparents_no (h.r.below hb) (by omega) hno
theorem D3.free (h : D3 B w H H2 Q) (id : Int) : ∃ r : Bool, (∀ W, Below w.heap.size w W → Calls Try.prog 16 #[.pointer (some ⟨H, 0, none⟩), .int .i64 id] W fun e w' => e = .returned (.bool r) ∧ Below W.heap.size W w') ∧
    ∀ W, Below w.heap.size w W → Calls Try.prog 19 #[.pointer (some ⟨H2, 0, none⟩), .int .i64 id] W fun e w' => e = .returned (.bool r) ∧ Below W.heap.size W w' := by
  obtain ⟨R, v, P, G, J, h, ok, rise, mem⟩ := h
  have hJ : J.length ≤ 100 := len100 (nodup_of_lt rise) fun x hx => ok.rng x ((mem x).1 hx)
  refine ⟨G.freeB id, fun W hb => free_g (h.g.below hb) id, fun W hb => ?_⟩
  have := rfree_g (h.r.below hb) (nodup_of_lt rise) (by omega) (fun x _ => by have := ok.pal x; omega) id
  rw [show decide (G.frR J id) = G.freeB id from decide_eq_decide.2 (fr_freeZ ok mem id)] at this
  exact this
theorem put_cong {y : Nat} (h : RefJ B w H2 v P (G.put y 2) J) : RefJ B w H2 v P (G.done y) J := h.cong fun _ _ => ⟨rfl, rfl, rfl⟩
theorem D3.done (h : D3 B w H H2 Q) (id : Int) : BothL Q 15 #[.pointer (some ⟨H, 0, none⟩), .int .i64 id] 30 #[.pointer (some ⟨H2, 0, none⟩), .int .i64 id] w fun q w3 => D3 B w3 H H2 q := by
  have h3 := h
  obtain ⟨R, v, P, G, J, h, ok, rise, mem⟩ := h
  have hJ : J.length ≤ 100 := len100 (nodup_of_lt rise) fun x hx => ok.rng x ((mem x).1 hx)
  have rd : ∀ W, RefJ B W H2 v P G J → Calls Try.prog 30 #[.pointer (some ⟨H2, 0, none⟩), .int .i64 id] W fun e w' => DoneR B H2 W v P G J id e w' :=
    fun W hr => rdone_g id hr (nodup_of_lt rise) hJ (fun x _ => by have := ok.pal x; omega)
  refine (done_g h.g ok id).mono ?_
  intro e w1 hp
  cases hp with
  | none h1 he hb =>
    subst he
    refine ⟨none, 0, 0, 3, [], rfl, by omega, Kp.of_below hb, hb.size, fun w2 b2 => (rd w2 (h.two hb b2).r).mono ?_⟩
    intro e w3 hr
    cases hr with
    | none g1 ge gb => exact ⟨none, 0, 0, ge, slz_nil _, slz_nil _, Kp.of_below gb, gb.size, R, v, P, G, J, ((h.two hb b2).below gb).less qx_le, ok, rise, mem⟩
    | state g1 g2 => exact absurd ((has_mem ok mem id).2 ⟨_, g2, g1⟩) h1
    | ok g1 g2 => exact absurd ((has_mem ok mem id).2 ⟨_, g2, g1⟩) h1
  | state h1 h2 he hb =>
    subst he
    refine ⟨none, 0, 0, 10, [], rfl, by omega, Kp.of_below hb, hb.size, fun w2 b2 => (rd w2 (h.two hb b2).r).mono ?_⟩
    intro e w3 hr
    cases hr with
    | none g1 =>
      obtain ⟨y, hy, e⟩ := (has_mem ok mem id).1 h1
      exact absurd e.symm (g1 y hy)
    | state g1 g2 g3 ge gb => exact ⟨none, 0, 0, ge, slz_nil _, slz_nil _, Kp.of_below gb, gb.size, R, v, P, G, J, ((h.two hb b2).below gb).less qx_le, ok, rise, mem⟩
    | ok g1 g2 g3 => exact absurd ((fr_freeZ ok mem id).1 g3) h2
  | ok hf ha g' t =>
    obtain ⟨v1, he, hrow⟩ := ha
    subst he
    obtain ⟨y, hy, rfl⟩ := (has_mem ok mem id).1 hf.1
    have ey : (y : Int).toNat = y := by omega
    rw [ey] at hrow g'
    have hfy : G.free y := by have := hf.2; rw [ey] at this; exact this
    obtain ⟨A, c, rfl⟩ := row_shape hrow
    obtain ⟨p1, k1⟩ := h.graph g' (GrowD.refl _ _ _) t
    have hlen : (G.doneL y).length ≤ 100 := by
      rw [← new_done ok rise mem hfy]
      exact Nat.le_trans (List.length_filter_le _ _) hJ
    refine ⟨A, _, c, 0, toZ (G.doneL y), rfl, hlen, k1, t.size, fun w2 b2 => ?_⟩
    have p2 := p1.below b2
    refine (rd w2 p2.r).mono ?_
    intro e w3 hr
    cases hr with
    | none g1 => exact absurd rfl (g1 y hy)
    | state g1 g2 g3 => exact absurd ((fr_freeZ ok mem _).2 hf) g3
    | @ok z g1 g2 g3 ga r' t2 =>
      obtain rfl : z = y := by omega
      obtain ⟨v2, ge, hrow2⟩ := ga
      subst ge
      obtain ⟨A2, c2, rfl⟩ := row_shape hrow2
      rw [new_done ok rise mem hfy] at hrow2
      obtain ⟨p3, k3⟩ := p2.ref (put_cong r') (fun k hk => .inl hk) t2
      refine ⟨A2, _, c2, rfl, row_stays hrow b2 t2 (fun k hk => (h.r.foot (.inl hk)).2), ?_, k3, t2.size, R, v, P, G.done z, J, p3, ok.done hfy, rise, fun x => ?_⟩
      · rw [new_done ok rise mem hfy]; exact slz_row hrow2
      · rw [mem x]
        show _ ↔ upd G.st z 2 x ≠ 0
        by_cases e : x = z
        · subst e; rw [upd_same, hfy.1]; simp
        · rw [upd_ne _ _ e]
theorem fails_cong (ok : G.Ok) (rise : J.Pairwise (· < ·)) (mem : ∀ x, x ∈ J ↔ G.st x ≠ 0) {y : Nat} (h : RefJ B w H2 v P (G.fails (y :: J.filter (G.goes y))) J) : RefJ B w H2 v P (G.fail y) J := h.cong fun x hx => by
  refine ⟨rfl, ?_, rfl⟩
  rw [goes_fail ok rise mem]
  show _ = if x ∈ y :: G.failL y then 3 else G.st x
  have hm : x ∈ G.failL y ↔ G.Rch y x ∧ G.st x = 1 := by
    unfold Gr.failL
    rw [pick_mem]
    exact ⟨fun q => q.2, fun q => ⟨(ok.rch q.1).2.2, q⟩⟩
  by_cases e : x = y ∨ (G.Rch y x ∧ G.st x = 1)
  · rw [fail_in e, if_pos (by rw [List.mem_cons, hm]; exact e)]
  · rw [fail_out e, if_neg (by rw [List.mem_cons, hm]; exact e)]
theorem D3.fail (h : D3 B w H H2 Q) (id : Int) : BothL Q 17 #[.pointer (some ⟨H, 0, none⟩), .int .i64 id] 31 #[.pointer (some ⟨H2, 0, none⟩), .int .i64 id] w fun q w3 => D3 B w3 H H2 q := by
  have h3 := h
  obtain ⟨R, v, P, G, J, h, ok, rise, mem⟩ := h
  have hJ : J.length ≤ 100 := len100 (nodup_of_lt rise) fun x hx => ok.rng x ((mem x).1 hx)
  have rd : ∀ W, RefJ B W H2 v P G J → Calls Try.prog 31 #[.pointer (some ⟨H2, 0, none⟩), .int .i64 id] W fun e w' => FailR B H2 W v P G J id e w' :=
    fun W hr => rfail_g id hr (nodup_of_lt rise) ok mem
  refine (fail_g h.g ok id).mono ?_
  intro e w1 hp
  cases hp with
  | none h1 he hb =>
    subst he
    refine ⟨none, 0, 0, 3, [], rfl, by omega, Kp.of_below hb, hb.size, fun w2 b2 => (rd w2 (h.two hb b2).r).mono ?_⟩
    intro e w3 hr
    cases hr with
    | none g1 ge gb => exact ⟨none, 0, 0, ge, slz_nil _, slz_nil _, Kp.of_below gb, gb.size, R, v, P, G, J, ((h.two hb b2).below gb).less qx_le, ok, rise, mem⟩
    | state g1 g2 => exact absurd ((has_mem ok mem id).2 ⟨_, g2, g1⟩) h1
    | ok g1 g2 => exact absurd ((has_mem ok mem id).2 ⟨_, g2, g1⟩) h1
  | state h1 h2 he hb =>
    subst he
    refine ⟨none, 0, 0, 10, [], rfl, by omega, Kp.of_below hb, hb.size, fun w2 b2 => (rd w2 (h.two hb b2).r).mono ?_⟩
    intro e w3 hr
    cases hr with
    | none g1 =>
      obtain ⟨y, hy, e⟩ := (has_mem ok mem id).1 h1
      exact absurd e.symm (g1 y hy)
    | state g1 g2 g3 ge gb => exact ⟨none, 0, 0, ge, slz_nil _, slz_nil _, Kp.of_below gb, gb.size, R, v, P, G, J, ((h.two hb b2).below gb).less qx_le, ok, rise, mem⟩
    | @ok z g1 g2 g3 =>
      subst g1
      rw [show ((z : Int).toNat) = z by omega] at h2
      exact absurd g3 h2
  | ok h1 hf ha g' t =>
    obtain ⟨v1, he, hrow⟩ := ha
    subst he
    obtain ⟨y, hy, rfl⟩ := (has_mem ok mem id).1 h1
    have ey : (y : Int).toNat = y := by omega
    rw [ey] at hrow g' hf
    obtain ⟨A, c, rfl⟩ := row_shape hrow
    obtain ⟨p1, k1⟩ := h.graph g' (GrowD.refl _ _ _) t
    have hlen : (G.failL y).length ≤ 100 := by
      rw [← goes_fail ok rise mem]
      exact Nat.le_trans (List.length_filter_le _ _) hJ
    refine ⟨A, _, c, 0, toZ (G.failL y), rfl, hlen, k1, t.size, fun w2 b2 => ?_⟩
    have p2 := p1.below b2
    refine (rd w2 p2.r).mono ?_
    intro e w3 hr
    cases hr with
    | none g1 => exact absurd rfl (g1 y hy)
    | @state z g1 g2 g3 =>
      obtain rfl : z = y := by omega
      exact absurd hf g3
    | @ok z g1 g2 g3 ga r' t2 =>
      obtain rfl : z = y := by omega
      obtain ⟨v2, ge, hrow2⟩ := ga
      subst ge
      obtain ⟨A2, c2, rfl⟩ := row_shape hrow2
      obtain ⟨p3, k3⟩ := p2.ref (fails_cong ok rise mem r') (fun k hk => .inl hk) t2
      refine ⟨A2, _, c2, rfl, row_stays hrow b2 t2 (fun k hk => (h.r.foot (.inl hk)).2), ?_, k3, t2.size, R, v, P, G.fail z, J, p3, ok.fail hf, rise, fun x => ?_⟩
      · rw [goes_fail ok rise mem] at hrow2 ⊢; exact slz_row hrow2
      · rw [mem x]
        by_cases e : x = z ∨ (G.Rch z x ∧ G.st x = 1)
        · rw [fail_in e]
          rcases e with rfl | e
          · rw [hf]; simp
          · rw [e.2]; simp
        · rw [fail_out e]
end Go.Proofs.Ytolfioiccmmifaa
