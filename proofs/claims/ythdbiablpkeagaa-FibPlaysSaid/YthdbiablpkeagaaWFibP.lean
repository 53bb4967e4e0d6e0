/- FibPlays' walk: whatever calls three heaps are given, they answer what lists would. -/
import Derived.Test.YthdbiablpkeagaaFpO
namespace Go.Proofs.Ythdbiablpkeagaa
open Go.RowKit
/-- Six blocks. -/
def A6 (a b c x y z : Nat) : Nat → Nat
  | 0 => a
  | 1 => b
  | 2 => c
  | 3 => x
  | 4 => y
  | _ => z
theorem A6.inj {a b c x y z i j : Nat} (h : a < b ∧ b < c ∧ c < x ∧ x < y ∧ y < z) (hi : i < 6) (hj : j < 6) (hne : i ≠ j) : A6 a b c x y z i ≠ A6 a b c x y z j := by
  rcases (by omega : i = 0 ∨ i = 1 ∨ i = 2 ∨ i = 3 ∨ i = 4 ∨ i = 5) with rfl | rfl | rfl | rfl | rfl | rfl <;>
  rcases (by omega : j = 0 ∨ j = 1 ∨ j = 2 ∨ j = 3 ∨ j = 4 ∨ j = 5) with rfl | rfl | rfl | rfl | rfl | rfl <;>
  first | exact absurd rfl hne | (simp only [A6]; omega)
theorem footNone {H k : Nat} (h : FootV H (.slice none 0 0) k) : k = H := by
  rcases h with h | h
  · exact h
  · cases h
theorem P3.start {B a b c x y z : Nat} {w : World} {Q : Nat → Prop} (h : a < b ∧ b < c ∧ c < x ∧ x < y ∧ y < z) (ha : HeapV B w a (.slice none 0 0) hp0 0 0) (hb : HeapV B w b (.slice none 0 0) hp0 0 0) (hc : HeapV B w c (.slice none 0 0) hp0 0 0)
    (hx : RefV B w x (.slice none 0 0) hp0) (hy : RefV B w y (.slice none 0 0) hp0) (hz : RefV B w z (.slice none 0 0) hp0) (ql : ∀ k, Q k → k < w.heap.size) (qf : ∀ k, Q k → k ≠ a ∧ k ≠ b ∧ k ≠ c ∧ k ≠ x ∧ k ≠ y ∧ k ≠ z) : P3 B w (A6 a b c x y z) 0 Q := by
  refine ⟨fun _ => .slice none 0 0, fun _ => hp0, fun _ => 0, fun _ => 0, fun i hi => ?_, fun i hi => ?_, fun i j hi hj hne k hk hk2 => ?_, Nat.le_refl _, ql, fun i hi k hk hq => ?_⟩
  · rcases three hi with rfl | rfl | rfl
    · exact ⟨ha, good0⟩
    · exact ⟨hb, good0⟩
    · exact ⟨hc, good0⟩
  · rcases three hi with rfl | rfl | rfl
    · exact hx
    · exact hy
    · exact hz
  · have e1 := footNone hk
    have e2 := footNone hk2
    exact A6.inj h hi hj hne (e1.symm.trans e2)
  · have e1 := footNone hk
    obtain ⟨n0, n1, n2, n3, n4, n5⟩ := qf k hq
    rcases (by omega : i = 0 ∨ i = 1 ∨ i = 2 ∨ i = 3 ∨ i = 4 ∨ i = 5) with rfl | rfl | rfl | rfl | rfl | rfl
    · exact n0 e1
    · exact n1 e1
    · exact n2 e1
    · exact n3 e1
    · exact n4 e1
    · exact n5 e1
/-- The loops' relation: the heaps behind i steps, the two rows of pointers, what came in. -/
structure Lp (B N : Nat) (A : Nat → Nat) (L R : Nat) (Q : Nat → Prop) (w0 w : World) : Prop where
  p : P3 B w A N Q
  k : Kp Q w0 w
  l : w.heap[L]? = some (.cells #[pA A 0, pA A 1, pA A 2] 52 (0, 0))
  r : w.heap[R]? = some (.cells #[pA A 3, pA A 4, pA A 5] 57 (0, 0))
  ql : Q L ∧ Q R
variable {B N L R : Nat} {A : Nat → Nat} {Q : Nat → Prop} {w0 w w' : World}
theorem Lp.next {N' : Nat} (h : Lp B N A L R Q w0 w) (p : P3 B w' A N' Q) (k : Kp Q w w') : Lp B N' A L R Q w0 w' :=
  ⟨p, h.k.trans k, (k.at (lt_of_at h.l) h.ql.1).trans h.l, (k.at (lt_of_at h.r) h.ql.2).trans h.r, h.ql⟩
theorem Lp.below (h : Lp B N A L R Q w0 w) (hb : Below w.heap.size w w') : Lp B N A L R Q w0 w' := h.next ((h.p.below hb).less qx_le) (Kp.of_below hb)
theorem Lp.cells (h : Lp B N A L R Q w0 w) : (w.cell? ⟨L, 0, none⟩ = some (.pointer (some ⟨A 0, 0, none⟩)) ∧ w.cell? ⟨L, 1, none⟩ = some (.pointer (some ⟨A 1, 0, none⟩)) ∧ w.cell? ⟨L, 2, none⟩ = some (.pointer (some ⟨A 2, 0, none⟩))) ∧
    w.cell? ⟨R, 0, none⟩ = some (.pointer (some ⟨A 3, 0, none⟩)) ∧ w.cell? ⟨R, 1, none⟩ = some (.pointer (some ⟨A 4, 0, none⟩)) ∧ w.cell? ⟨R, 2, none⟩ = some (.pointer (some ⟨A 5, 0, none⟩)) :=
  ⟨⟨(blk_cell h.l 0).trans rfl, (blk_cell h.l 1).trans rfl, (blk_cell h.l 2).trans rfl⟩, (blk_cell h.r 0).trans rfl, (blk_cell h.r 1).trans rfl, (blk_cell h.r 2).trans rfl⟩
theorem Kp.cell {b o : Nat} (k : Kp Q w w') (hb : b < w.heap.size) (hq : Q b) : w'.cell? ⟨b, o, none⟩ = w.cell? ⟨b, o, none⟩ := by
  have e := k.at hb hq
  unfold World.cell?
  rw [e]
def Six (w : World) (bb o : Nat) (x : OpF) : Prop := w.cell? ⟨bb, o, none⟩ = some (.int .i64 x.1) ∧ w.cell? ⟨bb, o + 1, none⟩ = some (.int .i64 x.2.1) ∧ w.cell? ⟨bb, o + 2, none⟩ = some (.int .i64 x.2.2.1) ∧ w.cell? ⟨bb, o + 3, none⟩ = some (.int .u64 x.2.2.2.1) ∧ w.cell? ⟨bb, o + 4, none⟩ = some (.int .u64 x.2.2.2.2.1) ∧ w.cell? ⟨bb, o + 5, none⟩ = some (.int .i64 x.2.2.2.2.2)
theorem six_kept {bb o : Nat} {x : OpF} (k : Kp Q w w') (hb : bb < w.heap.size) (hq : Q bb) (h : Six w bb o x) : Six w' bb o x :=
  ⟨(k.cell hb hq).trans h.1, (k.cell hb hq).trans h.2.1, (k.cell hb hq).trans h.2.2.1, (k.cell hb hq).trans h.2.2.2.1, (k.cell hb hq).trans h.2.2.2.2.1, (k.cell hb hq).trans h.2.2.2.2.2⟩
theorem Lp.s {bb o : Nat} {x : OpF} (h : Lp B N A L R Q w0 w) (k : Six w bb o x) : (w.cell? ⟨L, 0, none⟩ = some (.pointer (some ⟨A 0, 0, none⟩)) ∧ w.cell? ⟨L, 1, none⟩ = some (.pointer (some ⟨A 1, 0, none⟩)) ∧ w.cell? ⟨L, 2, none⟩ = some (.pointer (some ⟨A 2, 0, none⟩))) ∧
    (w.cell? ⟨R, 0, none⟩ = some (.pointer (some ⟨A 3, 0, none⟩)) ∧ w.cell? ⟨R, 1, none⟩ = some (.pointer (some ⟨A 4, 0, none⟩)) ∧ w.cell? ⟨R, 2, none⟩ = some (.pointer (some ⟨A 5, 0, none⟩))) ∧ Six w bb o x := ⟨h.cells.1, h.cells.2, k⟩
set_option maxRecDepth 100000 in
set_option maxHeartbeats 8000000 in
theorem fibPlays_any (S : Option Addr) (n cap : Nat) (l : List OpF) (w : World) (hs : SlF w S n l) (hn : n ≤ maxLen) :
    Calls Try.prog 6 #[.slice S n cap] w fun e w' => e = .returned (.bool true) ∧ Below w.heap.size w w' := by
  have HS := hid hs
  have HNM := hid hn
  clear hs hn
  go_enter Try.func6, Try.ntmps6
  go_wp2_with fail
  refine (awake_g w).mono ?_
  rintro e w1 ⟨rfl, hb1⟩
  have B1 := hid hb1
  clear hb1
  by_cases hn : n ≤ 500
  · have hni : ¬ (500 : Int) < (n : Int) := by omega
    have HN : Hid (n ≤ 500) := hn
    clear hn
    go_wp2_with fail
    refine (newh_g w.heap.size w1 B1.out.size).mono ?_
    rintro e w2 ⟨rfl, hb2, h2⟩
    have B2 := hid (B1.out.trans (hb2.mono B1.out.size))
    obtain ⟨a, ha⟩ : ∃ a, a = w1.heap.size := ⟨_, rfl⟩
    have la : a < w2.heap.size := by rw [ha]; exact h2.ltH
    have Za : w.heap.size ≤ a := by rw [ha]; exact B1.out.size
    rw [← ha] at h2 ⊢
    have H2 := hid h2
    clear hb2 h2 ha B1 w1
    go_wp2_with fail
    refine (newh_g w.heap.size w2 B2.out.size).mono ?_
    rintro e w3 ⟨rfl, hb3, h3⟩
    have B3 := hid (B2.out.trans (hb3.mono B2.out.size))
    have H2' := hid (H2.out.below hb3)
    obtain ⟨b, hb⟩ : ∃ b, b = w2.heap.size := ⟨_, rfl⟩
    have lb : b < w3.heap.size := by rw [hb]; exact h3.ltH
    have lab : a < b := by omega
    rw [← hb] at h3 ⊢
    have H3 := hid h3
    clear hb3 h3 hb B2 H2 la w2
    go_wp2_with fail
    refine (newh_g w.heap.size w3 B3.out.size).mono ?_
    rintro e w4 ⟨rfl, hb4, h4⟩
    have B4 := hid (B3.out.trans (hb4.mono B3.out.size))
    have H2 := hid (H2'.out.below hb4)
    have H3' := hid (H3.out.below hb4)
    obtain ⟨c, hc⟩ : ∃ c, c = w3.heap.size := ⟨_, rfl⟩
    have lc : c < w4.heap.size := by rw [hc]; exact h4.ltH
    have lbc : b < c := by omega
    rw [← hc] at h4 ⊢
    have H4 := hid h4
    clear hb4 h4 hc B3 H2' H3 lb w3
    go_upto_region 5 with (fail)
    refine wp_name ?_
    intro w5 hw5
    have b5 : Below w4.heap.size w4 w5 := by rw [hw5]; exact (by repeat (first | with_reducible assumption | with_reducible exact Below.refl _ _ | with_reducible refine Below.drew ?_ | with_reducible refine below_drewN ?_ _ | with_reducible refine below_alloc ?_ _ | with_reducible refine Below.alloc ?_ (by first | omega | (simp; done) | (simp; omega)) _ | with_reducible refine Below.setCell ?_ (by first | omega | (simp; done) | (simp; omega)) _ | with_reducible refine below_setRow ?_ (by first | omega | (simp; done) | (simp; omega)) _))
    have L5 : w5.heap[w4.heap.size]? = some (.cells #[.pointer (some ⟨a, 0, none⟩), .pointer (some ⟨b, 0, none⟩), .pointer (some ⟨c, 0, none⟩)] 52 (0, 0)) := by rw [hw5]; exact at_of (by apply Exists.intro; refine ⟨?_, ?_⟩; (focus ((repeat (first | (with_reducible assumption) | (with_reducible exact alloc_at _ _) | ((with_reducible apply alloc_at'); (simp; done)) | (with_reducible apply alloc_at_lt) | (with_reducible apply heap_drew_at) | (with_reducible apply heap_drewN_at) | (with_reducible apply heap_setCell_same) | ((with_reducible apply heap_set_ne); (first | omega | (dsimp only; omega) | (simp; done) | (simp; omega))) | (with_reducible apply setRow_at) | ((with_reducible apply setRow_ne); (first | omega | (dsimp only; omega) | (simp; done) | (simp; omega))))))); simp)
    have X5 : w5.heap[w4.heap.size + 1]? = some (.cells #[.slice none 0 0] 56 (0, 0)) := by rw [hw5]; exact at_of (by apply Exists.intro; refine ⟨?_, ?_⟩; (focus ((repeat (first | (with_reducible assumption) | (with_reducible exact alloc_at _ _) | ((with_reducible apply alloc_at'); (simp; done)) | (with_reducible apply alloc_at_lt) | (with_reducible apply heap_drew_at) | (with_reducible apply heap_drewN_at) | (with_reducible apply heap_setCell_same) | ((with_reducible apply heap_set_ne); (first | omega | (dsimp only; omega) | (simp; done) | (simp; omega))) | (with_reducible apply setRow_at) | ((with_reducible apply setRow_ne); (first | omega | (dsimp only; omega) | (simp; done) | (simp; omega))))))); simp)
    have Y5 : w5.heap[w4.heap.size + 1 + 1]? = some (.cells #[.slice none 0 0] 56 (0, 0)) := by rw [hw5]; exact at_of (by apply Exists.intro; refine ⟨?_, ?_⟩; (focus ((repeat (first | (with_reducible assumption) | (with_reducible exact alloc_at _ _) | ((with_reducible apply alloc_at'); (simp; done)) | (with_reducible apply alloc_at_lt) | (with_reducible apply heap_drew_at) | (with_reducible apply heap_drewN_at) | (with_reducible apply heap_setCell_same) | ((with_reducible apply heap_set_ne); (first | omega | (dsimp only; omega) | (simp; done) | (simp; omega))) | (with_reducible apply setRow_at) | ((with_reducible apply setRow_ne); (first | omega | (dsimp only; omega) | (simp; done) | (simp; omega))))))); simp)
    have Z5 : w5.heap[w4.heap.size + 1 + 1 + 1]? = some (.cells #[.slice none 0 0] 56 (0, 0)) := by rw [hw5]; exact at_of (by apply Exists.intro; refine ⟨?_, ?_⟩; (focus ((repeat (first | (with_reducible assumption) | (with_reducible exact alloc_at _ _) | ((with_reducible apply alloc_at'); (simp; done)) | (with_reducible apply alloc_at_lt) | (with_reducible apply heap_drew_at) | (with_reducible apply heap_drewN_at) | (with_reducible apply heap_setCell_same) | ((with_reducible apply heap_set_ne); (first | omega | (dsimp only; omega) | (simp; done) | (simp; omega))) | (with_reducible apply setRow_at) | ((with_reducible apply setRow_ne); (first | omega | (dsimp only; omega) | (simp; done) | (simp; omega))))))); simp)
    have R5 : w5.heap[w4.heap.size + 1 + 1 + 1 + 1]? = some (.cells #[.pointer (some ⟨w4.heap.size + 1, 0, none⟩), .pointer (some ⟨w4.heap.size + 1 + 1, 0, none⟩), .pointer (some ⟨w4.heap.size + 1 + 1 + 1, 0, none⟩)] 57 (0, 0)) := by rw [hw5]; exact at_of (by apply Exists.intro; refine ⟨?_, ?_⟩; (focus ((repeat (first | (with_reducible assumption) | (with_reducible exact alloc_at _ _) | ((with_reducible apply alloc_at'); (simp; done)) | (with_reducible apply alloc_at_lt) | (with_reducible apply heap_drew_at) | (with_reducible apply heap_drewN_at) | (with_reducible apply heap_setCell_same) | ((with_reducible apply heap_set_ne); (first | omega | (dsimp only; omega) | (simp; done) | (simp; omega))) | (with_reducible apply setRow_at) | ((with_reducible apply setRow_ne); (first | omega | (dsimp only; omega) | (simp; done) | (simp; omega))))))); simp)
    obtain ⟨L, hL⟩ : ∃ L, L = w4.heap.size := ⟨_, rfl⟩
    obtain ⟨x, hx⟩ : ∃ x, x = L + 1 := ⟨_, rfl⟩
    obtain ⟨y, hy⟩ : ∃ y, y = x + 1 := ⟨_, rfl⟩
    obtain ⟨z, hz⟩ : ∃ z, z = y + 1 := ⟨_, rfl⟩
    obtain ⟨R, hR⟩ : ∃ R, R = z + 1 := ⟨_, rfl⟩
    rw [← hL] at L5 X5 Y5 Z5 R5 ⊢
    rw [← hx] at X5 Y5 Z5 R5 ⊢
    rw [← hy] at Y5 Z5 R5 ⊢
    rw [← hz] at Z5 R5 ⊢
    rw [← hR] at R5 ⊢
    have lL := lt_of_at L5
    have lR := lt_of_at R5
    have hsz5 := b5.size
    have hwB := B4.out.size
    have rx : RefV w.heap.size w5 x (.slice none 0 0) hp0 := ⟨by omega, X5, World.ownsRow_nil _ _ _ _⟩
    have ry : RefV w.heap.size w5 y (.slice none 0 0) hp0 := ⟨by omega, Y5, World.ownsRow_nil _ _ _ _⟩
    have rz : RefV w.heap.size w5 z (.slice none 0 0) hp0 := ⟨by omega, Z5, World.ownsRow_nil _ _ _ _⟩
    have hP := P3.start (Q := fun k => k < w.heap.size ∨ k = L ∨ k = R) (by omega) (H2.out.below b5) (H3'.out.below b5) (H4.out.below b5) rx ry rz (fun k hk => by rcases hk with q | rfl | rfl <;> omega) (fun k hk => by rcases hk with q | rfl | rfl <;> omega)
    obtain ⟨A, hA⟩ : ∃ A, A = A6 a b c x y z := ⟨_, rfl⟩
    obtain ⟨Q, hQ⟩ : ∃ Q : Nat → Prop, Q = fun k => k < w.heap.size ∨ k = L ∨ k = R := ⟨_, rfl⟩
    rw [← hA, ← hQ] at hP
    have HLP : Hid (Lp w.heap.size 0 A L R Q w5 w5) := ⟨hP, Kp.of_below (Below.refl _ _), by rw [hA]; exact L5, by rw [hA]; exact R5, by rw [hQ]; exact ⟨.inr (.inl rfl), .inr (.inr rfl)⟩⟩
    have HB5 := hid (B4.out.trans (b5.mono B4.out.size))
    have HQW : Hid (∀ k, k < w.heap.size → Q k) := by rw [hQ]; exact fun k hk => .inl hk
    have HFB : Hid (∀ W, Kp Q w5 W → Below w.heap.size w W) := fun W hK => HB5.out.trans (Tur.below hK HB5.out.size (fun k hk => by
      by_cases q : k < w.heap.size
      · exact absurd (HQW.out k q) hk
      · omega))
    have hw := HB5.out.size
    clear hw5 b5 L5 X5 Y5 Z5 R5 hL hx hy hz hR rx ry rz hP hA hQ lL lR hsz5 hwB H2 H3' H4 B4 Za lab lbc lc w4
    go_wp2_with fail
    go_loopw [5] (fun iv wr => ∃ i : Nat, i ≤ n ∧ iv = .int .i64 i ∧ Hid (Lp w.heap.size i A L R Q w5 wr)) (fun iv _ => n - (intOf iv).toNat)
    case atStart => exact ⟨0, Nat.zero_le _, rfl, HLP⟩
    case round =>
      clear HLP
      obtain ⟨i, hi, rfl, HL⟩ := hrel
      by_cases hin : i < n
      · have HK1 : Hid (i + 1 ≤ n) := hin
        have HMS : Hid (n - (i + 1) < n - i) := by unfold Hid; omega
        have hii : (i : Int) < (n : Int) := by omega
        have hib : (i : Int) ≤ 500 := by have := HN.out; omega
        have HIB : Hid (i < 100000) := by have := HN.out; unfold Hid; omega
        obtain ⟨⟨kd, hh, nn, k0, k1, k2⟩, bb, off, hok, rfl, hbl, o0, o1, o2, o3, o4, o5⟩ := HS.out.one (HFB.out _ HL.out.k) hin
        simp only at o0 o1 o2 o3 o4 o5 hok
        obtain ⟨⟨l0, l1, l2⟩, r0, r1, r2⟩ := HL.out.cells
        have HOK := hid hok
        have HBL := hid hbl
        have hbr : bb < wr.heap.size := World.block_lt_of_cell? wr _ o0
        have HD := hid (HL.out.below (w' := wr.drew) (by repeat (first | with_reducible assumption | with_reducible exact Below.refl _ _ | with_reducible refine Below.drew ?_ | with_reducible refine below_drewN ?_ _ | with_reducible refine below_alloc ?_ _ | with_reducible refine Below.alloc ?_ (by first | omega | (simp; done) | (simp; omega)) _ | with_reducible refine Below.setCell ?_ (by first | omega | (simp; done) | (simp; omega)) _ | with_reducible refine below_setRow ?_ (by first | omega | (simp; done) | (simp; omega)) _)))
        have HST := hid (step_any HD.out.p HIB.out kd hh nn (k0, k1, k2) HOK.out)
        unfold lA oA pA at HST
        simp only at HST
        have HOO : Hid (Six wr.drew bb (off + i * 6) (kd, hh, nn, k0, k1, k2)) := ⟨o0, o1, o2, o3, o4, o5⟩
        clear hok hbl hin hi
        go_upto_region 8 with (fail)
        go_region_held3 (fun w' => (w'.cell? ⟨L, 0, none⟩ = some (.pointer (some ⟨A 0, 0, none⟩)) ∧ w'.cell? ⟨L, 1, none⟩ = some (.pointer (some ⟨A 1, 0, none⟩)) ∧ w'.cell? ⟨L, 2, none⟩ = some (.pointer (some ⟨A 2, 0, none⟩))) ∧ (w'.cell? ⟨R, 0, none⟩ = some (.pointer (some ⟨A 3, 0, none⟩)) ∧ w'.cell? ⟨R, 1, none⟩ = some (.pointer (some ⟨A 4, 0, none⟩)) ∧ w'.cell? ⟨R, 2, none⟩ = some (.pointer (some ⟨A 5, 0, none⟩))) ∧ w'.cell? ⟨bb, off + i * 6, none⟩ = some (.int .i64 kd) ∧ w'.cell? ⟨bb, off + i * 6 + 1, none⟩ = some (.int .i64 hh) ∧ w'.cell? ⟨bb, off + i * 6 + 2, none⟩ = some (.int .i64 nn) ∧ w'.cell? ⟨bb, off + i * 6 + 3, none⟩ = some (.int .u64 k0) ∧ w'.cell? ⟨bb, off + i * 6 + 4, none⟩ = some (.int .u64 k1) ∧ w'.cell? ⟨bb, off + i * 6 + 5, none⟩ = some (.int .i64 k2)) (first | (go_keep; done) | ((try go_split_ands); (try dsimp only); exact Lp.s HL9.out HO9.out)) (first | (go_at_call 19; refine HST.out.mono ?_; rintro e w9 ⟨rfl, hf9⟩; have HL9 := hid (HD.out.next hf9.1 hf9.2); have HO9 := hid (six_kept hf9.2 hbr (HQW.out _ HBL.out) HOO.out); clear hf9))
        all_goals
          clear o0 o1 o2 o3 o4 o5 l0 l1 l2 r0 r1 r2 HST HD HOO HO9 hbr HBL HOK HL
          go_wp2_with fail
          go_loopw [6] (fun kv wq => ∃ k : Nat, k ≤ 3 ∧ kv = .int .i64 k ∧ Hid (Lp w.heap.size (i + 1) A L R Q w5 wq)) (fun kv _ => 3 - (intOf kv).toNat)
          case atStart => exact ⟨0, Nat.zero_le _, rfl, HL9⟩
          case round =>
            clear HL9
            obtain ⟨k, hk, rfl, HQ⟩ := hrel
            by_cases hk3 : k < 3
            · have HK2 : Hid (k + 1 ≤ 3) := hk3
              have HMS2 : Hid (3 - (k + 1) < 3 - k) := by unfold Hid; omega
              have hki : (k : Int) < 3 := by omega
              have c1 := cell3 HQ.out.l hk3
              have c2 := cell3 HQ.out.r hk3
              obtain ⟨cc, g1, g2⟩ := HQ.out.p.len hk3
              have G1 := hid g1
              have G2 := hid g2
              unfold pA at G1 G2
              have HLW : Hid (∀ W, Below wr.heap.size wr W → Lp w.heap.size (i + 1) A L R Q w5 W) := fun W hb => HQ.out.below hb
              clear g1 g2 hk hk3
              go_upto_region 13 with (fail)
              go_region_held3 (fun w' => w'.cell? ⟨L, k, none⟩ = some (.pointer (some ⟨A (k + 0), 0, none⟩)) ∧ w'.cell? ⟨R, k, none⟩ = some (.pointer (some ⟨A (k + 3), 0, none⟩))) (go_keep) (first | (go_at_call 14; refine (G1.out _ (by repeat (first | with_reducible assumption | with_reducible exact Below.refl _ _ | with_reducible refine Below.drew ?_ | with_reducible refine below_drewN ?_ _ | with_reducible refine below_alloc ?_ _ | with_reducible refine Below.alloc ?_ (by first | omega | (simp; done) | (simp; omega)) _ | with_reducible refine Below.setCell ?_ (by first | omega | (simp; done) | (simp; omega)) _ | with_reducible refine below_setRow ?_ (by first | omega | (simp; done) | (simp; omega)) _))).mono ?_; rintro e w91 ⟨rfl, rfl⟩) | (go_at_call 20; refine (G2.out _ (by repeat (first | with_reducible assumption | with_reducible exact Below.refl _ _ | with_reducible refine Below.drew ?_ | with_reducible refine below_drewN ?_ _ | with_reducible refine below_alloc ?_ _ | with_reducible refine Below.alloc ?_ (by first | omega | (simp; done) | (simp; omega)) _ | with_reducible refine Below.setCell ?_ (by first | omega | (simp; done) | (simp; omega)) _ | with_reducible refine below_setRow ?_ (by first | omega | (simp; done) | (simp; omega)) _))).mono ?_; rintro e w92 ⟨rfl, rfl⟩))
              all_goals
                clear G1 G2 HQ
                go_wp2
                go_roundw
                case rel => exact ⟨k + 1, HK2.out, by go_num, hid (HLW.out _ (by repeat (first | with_reducible assumption | with_reducible exact Below.refl _ _ | with_reducible refine Below.drew ?_ | with_reducible refine below_drewN ?_ _ | with_reducible refine below_alloc ?_ _ | with_reducible refine Below.alloc ?_ (by first | omega | (simp; done) | (simp; omega)) _ | with_reducible refine Below.setCell ?_ (by first | omega | (simp; done) | (simp; omega)) _ | with_reducible refine below_setRow ?_ (by first | omega | (simp; done) | (simp; omega)) _)))⟩
                case measure => have := HMS2.out; simp [intOf]; omega
            · obtain rfl : k = 3 := by omega
              clear hk hk3
              go_wp2
              go_roundw
              case rel => exact ⟨i + 1, HK1.out, by go_num, HQ⟩
              case measure => have := HMS.out; simp [intOf]; omega
      · obtain rfl : i = n := by omega
        obtain ⟨⟨l0, l1, l2⟩, r0, r1, r2⟩ := HL.out.cells
        have HD1 := hid (drained_any (i := 0) HL.out.p (by omega))
        unfold pA at HD1
        clear hin hi
        go_wp2_with fail
        refine HD1.out.mono ?_
        rintro e w6 ⟨rfl, p6, k6⟩
        have HL6 := hid (HL.out.next p6 k6)
        clear l0 l1 l2 r0 r1 r2 HL HD1 p6 k6
        obtain ⟨⟨l0, l1, l2⟩, r0, r1, r2⟩ := HL6.out.cells
        have HD2 := hid (drained_any (i := 1) HL6.out.p (by omega))
        unfold pA at HD2
        go_wp2_with fail
        refine HD2.out.mono ?_
        rintro e w7 ⟨rfl, p7, k7⟩
        have HL7 := hid (HL6.out.next p7 k7)
        clear l0 l1 l2 r0 r1 r2 HL6 HD2 p7 k7
        obtain ⟨⟨l0, l1, l2⟩, r0, r1, r2⟩ := HL7.out.cells
        have HD3 := hid (drained_any (i := 2) HL7.out.p (by omega))
        unfold pA at HD3
        go_wp2_with fail
        refine HD3.out.mono ?_
        rintro e w8 ⟨rfl, p8, k8⟩
        have HL8 := hid (HL7.out.next p8 k8)
        clear l0 l1 l2 r0 r1 r2 HL7 HD3 p8 k8
        go_wp2
        go_ret
        exact ⟨rfl, HFB.out _ HL8.out.k⟩
  · have hni : (500 : Int) < (n : Int) := by omega
    go_wp2_with fail
    refine (awake_g w1).mono ?_
    rintro e w2 ⟨rfl, hb2⟩
    have B2 := B1.out.trans (hb2.mono B1.out.size)
    go_wp2
    go_ret
    exact ⟨rfl, B2⟩
end Go.Proofs.Ythdbiablpkeagaa
