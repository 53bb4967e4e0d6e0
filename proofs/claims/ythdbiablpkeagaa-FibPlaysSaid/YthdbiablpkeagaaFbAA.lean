/- Chapter 8's Delete, and what Decrease answers where it does nothing. -/
import Derived.Test.YthdbiablpkeagaaFbZ
import Derived.Test.YthdbiablpkeagaaFbS
namespace Go.Proofs.Ythdbiablpkeagaa
open Go.RowKit
variable {B H g cap : Nat} {w w' : World} {s s' : Hp} {least n : Int}
/-- Any root can be taken out. -/
theorem Good.poppedAt {x : Nat} (h : Good s least n) (hx : s.th x = true) (hp : s.par x = -1) : Popped s n x ∧ 0 < n := by
  obtain ⟨h0, h1, kids, L, hf, hr⟩ := h
  have hxL := (hf.top_iff hr hx).2 hp
  have hxm := hf.ltm x hx
  obtain ⟨u, v, rfl⟩ := List.append_of_mem hxL
  have hperm : (u ++ x :: v).Perm (x :: (v ++ u)) := List.perm_middle.trans (List.Perm.cons x List.perm_append_comm)
  have hf2 := hf.perm hperm
  have hrg : Ring s.lf s.rt (x :: (v ++ u)) := Ring.turns (u := u) (t := x :: v) hr.rg
  have hF := hf2.pop (s' := s.clear x) (x := x) (by simp) rfl rfl fun z hz => ⟨up_ne _ _ hz, up_ne _ _ hz, up_ne _ _ hz, up_ne _ _ hz, up_ne _ _ hz, up_ne _ _ hz, up_ne _ _ hz⟩
  rw [List.erase_cons_head] at hF
  have hc := count_del s.th s.m hxm hx
  refine ⟨⟨v ++ u, kids x, ⟨hx, hxm⟩, hrg, hf2.lnd, fun z hz => hf.ltm z (hf2.lth z hz).1, hf.krg x hx, hf.knd x hx, hf.kch x hx, fun z hz => hf.ltm z (hf.ord hx hz).1, kids, hF, ?_⟩, by omega⟩
  show n - 1 = ((List.range s.m).countP (up s.th x false) : Int)
  omega
theorem SameK.clear {x : Nat} (h : SameK s s') : SameK (s.clear x) (s'.clear x) := ⟨h.1, by show up s'.key x _ = up s.key x _; rw [h.2.1], by show up s'.th x _ = up s.th x _; rw [h.2.2]⟩
set_option maxRecDepth 20000 in
set_option maxHeartbeats 4000000 in
theorem delete_no {v : Value} (x : Int) (h : HeapV B w H v s least n) (hx : ¬ s.has x) : Calls Try.prog 22 #[.pointer (some ⟨H, 0, none⟩), .int .i64 x] w fun e w' => e = .returned (.int .i64 3) ∧ Below w.heap.size w w' := by
  have HL : Hid (∀ W, Below w.heap.size w W → Calls Try.prog 28 #[.pointer (some ⟨H, 0, none⟩), .int .i64 x] W fun e w' => e = .returned (.bool false) ∧ W = w') := fun W hb => by
    have := has_g x (h.below hb)
    rw [decide_eq_false hx] at this
    exact this
  clear h hx
  go_enter Try.func22, Try.ntmps22
  go_wp2_with fail
  refine (HL.out _ (by repeat (first | with_reducible assumption | with_reducible exact Below.refl _ _ | with_reducible refine Below.drew ?_ | with_reducible refine below_drewN ?_ _ | with_reducible refine below_alloc ?_ _ | with_reducible refine Below.alloc ?_ (by first | omega | (simp; done) | (simp; omega)) _ | with_reducible refine Below.setCell ?_ (by first | omega | (simp; done) | (simp; omega)) _ | with_reducible refine below_setRow ?_ (by first | omega | (simp; done) | (simp; omega)) _))).mono ?_
  rintro e w1 ⟨rfl, rfl⟩
  go_wp2
  go_ret
  exact ⟨rfl, (by repeat (first | with_reducible assumption | with_reducible exact Below.refl _ _ | with_reducible refine Below.drew ?_ | with_reducible refine below_drewN ?_ _ | with_reducible refine below_alloc ?_ _ | with_reducible refine Below.alloc ?_ (by first | omega | (simp; done) | (simp; omega)) _ | with_reducible refine Below.setCell ?_ (by first | omega | (simp; done) | (simp; omega)) _ | with_reducible refine below_setRow ?_ (by first | omega | (simp; done) | (simp; omega)) _))⟩
set_option maxRecDepth 20000 in
set_option maxHeartbeats 4000000 in
theorem delete_yes (x : Nat) (h : HeapG B w H g cap s least n) (hg : Good s least n) (hx : s.th x = true) (hxm : x < s.m) :
    Calls Try.prog 22 #[.pointer (some ⟨H, 0, none⟩), .int .i64 x] w fun e w' => e = .returned (.int .i64 0) ∧ ∃ s' least', HeapG B w' H g cap s' least' (n - 1) ∧ Good s' least' (n - 1) ∧ SameK (s.clear x) s' ∧ Tur (FootG H g) w w' := by
  have HL : Hid (∀ W, Below w.heap.size w W → Calls Try.prog 28 #[.pointer (some ⟨H, 0, none⟩), .int .i64 x] W fun e w' => e = .returned (.bool true) ∧ W = w') := fun W hb => by
    have := has_g (x : Int) (h.toV.below hb)
    rw [decide_eq_true (by unfold Hp.has; simp; exact ⟨hxm, hx⟩)] at this
    exact this
  obtain ⟨h0, h1, kids, L, hf, hr⟩ := hg
  have ixb : (x : Int) ≤ 1048576 := by omega
  have HCUT := hid (cut_g x kids L h h0 (hf.except (some x)) hr hx h1)
  have HX := hid hx
  clear h h0 h1 hf hr hx hxm
  go_enter Try.func22, Try.ntmps22
  go_wp2_with fail
  refine (HL.out _ (by repeat (first | with_reducible assumption | with_reducible exact Below.refl _ _ | with_reducible refine Below.drew ?_ | with_reducible refine below_drewN ?_ _ | with_reducible refine below_alloc ?_ _ | with_reducible refine Below.alloc ?_ (by first | omega | (simp; done) | (simp; omega)) _ | with_reducible refine Below.setCell ?_ (by first | omega | (simp; done) | (simp; omega)) _ | with_reducible refine below_setRow ?_ (by first | omega | (simp; done) | (simp; omega)) _))).mono ?_
  rintro e w1 ⟨rfl, rfl⟩
  go_wp2_with fail
  refine HCUT.out.mono ?_
  rintro e w2 ⟨rfl, s2, least2, h2, g2, sk2, hp2, t2⟩
  have hx2 : s2.th x = true := by rw [sk2.2.2]; exact HX.out
  obtain ⟨hpop, hn⟩ := g2.poppedAt hx2 hp2
  have c1 : w2.cell? ⟨H, 1, none⟩ = some (.int .i64 least2) := h2.head.2.1
  have cf := h2.head.2.2.2
  have H3 : Hid (HeapG B (w2.setCell ⟨H, 1, none⟩ (.int .i64 ((x : Int) + 1))) H g cap s2 ((x : Int) + 1) n ∧ Tur (FootG H g) w (w2.setCell ⟨H, 1, none⟩ (.int .i64 ((x : Int) + 1)))) := ⟨h2.setL _, t2.then tur_h⟩
  have HM2 := hid g2.1
  have HNN := hid g2.nn
  have HPOP := hid hpop
  have HN := hid hn
  have HSK := hid sk2
  clear h2 g2 sk2 hp2 t2 hx2 hpop hn HCUT HL
  go_upto_region 5 with (fail)
  refine wp_name ?_
  intro w3 hw3
  rw [← hw3] at H3
  clear hw3 c1 cf
  go_wp2_with fail
  refine (pop_any H3.out.1 HM2.out HNN.out HPOP.out rfl HN.out).mono ?_
  rintro e w4 ⟨rfl, s4, least4, h4, g4, sk4, t4⟩
  have H4 := hid h4
  have G4 := hid g4
  have HSK4 : Hid (SameK (s.clear x) s4) := HSK.out.clear.trans sk4
  have T4 := hid (H3.out.2.then t4)
  clear h4 g4 sk4 t4
  unfold keyV
  go_wp2
  go_ret
  exact ⟨rfl, s4, least4, H4.out.below ((by repeat (first | with_reducible assumption | with_reducible exact Below.refl _ _ | with_reducible refine Below.drew ?_ | with_reducible refine below_drewN ?_ _ | with_reducible refine below_alloc ?_ _ | with_reducible refine Below.alloc ?_ (by first | omega | (simp; done) | (simp; omega)) _ | with_reducible refine Below.setCell ?_ (by first | omega | (simp; done) | (simp; omega)) _ | with_reducible refine below_setRow ?_ (by first | omega | (simp; done) | (simp; omega)) _))), G4.out, HSK4.out, T4.out.then (Tur.of_below (by repeat (first | with_reducible assumption | with_reducible exact Below.refl _ _ | with_reducible refine Below.drew ?_ | with_reducible refine below_drewN ?_ _ | with_reducible refine below_alloc ?_ _ | with_reducible refine Below.alloc ?_ (by first | omega | (simp; done) | (simp; omega)) _ | with_reducible refine Below.setCell ?_ (by first | omega | (simp; done) | (simp; omega)) _ | with_reducible refine below_setRow ?_ (by first | omega | (simp; done) | (simp; omega)) _)))⟩
set_option maxRecDepth 20000 in
set_option maxHeartbeats 4000000 in
theorem decrease_form {v : Value} (x k0 k2 : Int) (h : HeapV B w H v s least n) (hx : s.has x) : Calls Try.prog 17 #[.pointer (some ⟨H, 0, none⟩), .int .i64 x, .agg #[.int .u64 k0, .int .u64 0, .int .i64 k2]] w fun e w' => e = .returned (.int .i64 4) ∧ Below w.heap.size w w' := by
  have HL : Hid (∀ W, Below w.heap.size w W → Calls Try.prog 28 #[.pointer (some ⟨H, 0, none⟩), .int .i64 x] W fun e w' => e = .returned (.bool true) ∧ W = w') := fun W hb => by
    have := has_g x (h.below hb)
    rw [decide_eq_true hx] at this
    exact this
  clear h hx
  go_enter Try.func17, Try.ntmps17
  go_wp2_with fail
  refine (HL.out _ (by repeat (first | with_reducible assumption | with_reducible exact Below.refl _ _ | with_reducible refine Below.drew ?_ | with_reducible refine below_drewN ?_ _ | with_reducible refine below_alloc ?_ _ | with_reducible refine Below.alloc ?_ (by first | omega | (simp; done) | (simp; omega)) _ | with_reducible refine Below.setCell ?_ (by first | omega | (simp; done) | (simp; omega)) _ | with_reducible refine below_setRow ?_ (by first | omega | (simp; done) | (simp; omega)) _))).mono ?_
  rintro e w1 ⟨rfl, rfl⟩
  go_wp2
  go_ret
  exact ⟨rfl, (by repeat (first | with_reducible assumption | with_reducible exact Below.refl _ _ | with_reducible refine Below.drew ?_ | with_reducible refine below_drewN ?_ _ | with_reducible refine below_alloc ?_ _ | with_reducible refine Below.alloc ?_ (by first | omega | (simp; done) | (simp; omega)) _ | with_reducible refine Below.setCell ?_ (by first | omega | (simp; done) | (simp; omega)) _ | with_reducible refine below_setRow ?_ (by first | omega | (simp; done) | (simp; omega)) _))⟩
set_option maxRecDepth 100000 in
set_option maxHeartbeats 8000000 in
theorem decrease_range (x : Nat) (k : K3) (h : HeapG B w H g cap s least n) (hx : s.th x = true) (hxm : x < s.m) (hk : okK k) (hle : gtK k (s.key x)) (ho : okK (s.key x)) :
    Calls Try.prog 17 #[.pointer (some ⟨H, 0, none⟩), .int .i64 x, .agg #[.int .u64 k.1, .int .u64 k.2.1, .int .i64 k.2.2]] w fun e w' => e = .returned (.int .i64 2) ∧ Below w.heap.size w w' := by
  have HL : Hid (∀ W, Below w.heap.size w W → Calls Try.prog 28 #[.pointer (some ⟨H, 0, none⟩), .int .i64 x] W fun e w' => e = .returned (.bool true) ∧ W = w') := fun W hb => by
    have := has_g (x : Int) (h.toV.below hb)
    rw [decide_eq_true (by unfold Hp.has; simp; exact ⟨hxm, hx⟩)] at this
    exact this
  obtain ⟨c0, -, -, cf⟩ := h.head
  obtain ⟨k0, k1, k2, -⟩ := h.cells hxm
  have gf := h.free
  have ix : (x : Int) < (s.m : Int) := by omega
  have hlH := h.ltH
  have hlg := h.ltg
  have HC : Hid (∀ W, Calls Try.prog 29 #[.agg #[.int .u64 k.1, .int .u64 k.2.1], .agg #[.int .u64 (s.key x).1, .int .u64 (s.key x).2.1]] W fun e w' => e = .returned (.tuple #[.int .i64 (cmpZ (k.1 * (s.key x).2.1) ((s.key x).1 * k.2.1)), .int .i64 0]) ∧ Below W.heap.size W w') := fun W => by
    have h1 := hk
    have h2 := ho
    unfold okK at h1 h2
    have := cmpR_any k.1 k.2.1 (s.key x).1 (s.key x).2.1 W h1.1.1 h1.1.2.1 (by omega) h1.1.2.2 h2.1.1 h2.1.2.1 (by omega) h2.1.2.2
    unfold cmpR at this
    rw [if_neg (by omega)] at this
    exact this
  have hq := (gtK_val k (s.key x)).2 hle
  have i6 : (k.2.1 == 0) = false := by
    have := hk.2
    simp
    omega
  have HH := hid h
  have HX := hid hx
  have HXM := hid hxm
  have HK := hid hk
  have K0 : (k.1, k.2.1, k.2.2) = k := rfl
  generalize hc1 : cmpZ (k.1 * (s.key x).2.1) ((s.key x).1 * k.2.1) = c1 at *
  generalize hc2 : cmpZ k.2.2 (s.key x).2.2 = c2 at *
  have HC2 := hid hc2
  obtain ⟨z0, hz0⟩ : ∃ z0, z0 = (s.key x).1 := ⟨_, rfl⟩
  obtain ⟨z1, hz1⟩ : ∃ z1, z1 = (s.key x).2.1 := ⟨_, rfl⟩
  obtain ⟨z2, hz2⟩ : ∃ z2, z2 = (s.key x).2.2 := ⟨_, rfl⟩
  rw [← hz0] at k0
  rw [← hz1] at k1
  rw [← hz2] at k2
  rw [← hz0, ← hz1] at HC
  rw [← hz2] at HC2
  clear h hx hxm hk hle ho hc1 hc2 hz0 hz1 hz2 K0
  generalize hka : k.1 = ka at *
  generalize hkb : k.2.1 = kb at *
  generalize hkc : k.2.2 = kc at *
  have HKA := hid hka
  have HKB := hid hkb
  have HKC := hid hkc
  clear hka hkb hkc
  obtain ⟨m, hm⟩ : ∃ m, m = s.m := ⟨_, rfl⟩
  rw [← hm] at c0 ix
  have HMM := hid hm
  clear hm
  go_enter Try.func17, Try.ntmps17
  go_wp2_with fail
  refine (HL.out _ (by repeat (first | with_reducible assumption | with_reducible exact Below.refl _ _ | with_reducible refine Below.drew ?_ | with_reducible refine below_drewN ?_ _ | with_reducible refine below_alloc ?_ _ | with_reducible refine Below.alloc ?_ (by first | omega | (simp; done) | (simp; omega)) _ | with_reducible refine Below.setCell ?_ (by first | omega | (simp; done) | (simp; omega)) _ | with_reducible refine below_setRow ?_ (by first | omega | (simp; done) | (simp; omega)) _))).mono ?_
  rintro e w1 ⟨rfl, rfl⟩
  go_wp2_with fail
  refine (HC.out _).mono ?_
  rintro e w2 ⟨rfl, hb2⟩
  have hs2 := hb2.size
  simp only [World.size_alloc] at hs2
  have B2 : Below w.heap.size w w2 := Below.trans (by repeat (first | with_reducible assumption | with_reducible exact Below.refl _ _ | with_reducible refine Below.drew ?_ | with_reducible refine below_drewN ?_ _ | with_reducible refine below_alloc ?_ _ | with_reducible refine Below.alloc ?_ (by first | omega | (simp; done) | (simp; omega)) _ | with_reducible refine Below.setCell ?_ (by first | omega | (simp; done) | (simp; omega)) _ | with_reducible refine below_setRow ?_ (by first | omega | (simp; done) | (simp; omega)) _)) (hb2.mono (by first | omega | (simp; done) | (simp; omega)))
  obtain ⟨hc2, hf2⟩ := bcell hb2
  have q2 : w2.heap[w.heap.size]? = some (.cells #[.int .u64 ka, .int .u64 kb, .int .i64 kc] 33 (0, 0)) := below_at hb2 (by first | omega | (simp; done) | (simp; omega)) (at_of (by apply Exists.intro; refine ⟨?_, ?_⟩; (focus ((repeat (first | (with_reducible assumption) | (with_reducible exact alloc_at _ _) | ((with_reducible apply alloc_at'); (simp; done)) | (with_reducible apply alloc_at_lt) | (with_reducible apply heap_drew_at) | (with_reducible apply heap_drewN_at) | (with_reducible apply heap_setCell_same) | ((with_reducible apply heap_set_ne); (first | omega | (dsimp only; omega) | (simp; done) | (simp; omega))) | (with_reducible apply setRow_at) | ((with_reducible apply setRow_ne); (first | omega | (dsimp only; omega) | (simp; done) | (simp; omega))))))); simp))
  clear hb2
  go_wp2_with fail
  refine (cmpT_any _ _ _).mono ?_
  rintro e w3 ⟨rfl, rfl⟩
  rw [HC2.out]
  go_wp2_with fail
  refine (or2' _ c1 c2 _ (by (repeat (first | (with_reducible assumption) | (with_reducible exact alloc_at _ _) | ((with_reducible apply alloc_at'); (simp; done)) | (with_reducible apply alloc_at_lt) | (with_reducible apply heap_drew_at) | (with_reducible apply heap_drewN_at) | (with_reducible apply heap_setCell_same) | ((with_reducible apply heap_set_ne); (first | omega | (dsimp only; omega) | (simp; done) | (simp; omega))) | (with_reducible apply setRow_at) | ((with_reducible apply setRow_ne); (first | omega | (dsimp only; omega) | (simp; done) | (simp; omega))))))).mono ?_
  rintro e w3 ⟨rfl, rfl⟩
  generalize (if c1 ≠ 0 then c1 else c2) = q at *
  go_wp2
  go_ret
  exact ⟨rfl, (by repeat (first | with_reducible assumption | with_reducible exact Below.refl _ _ | with_reducible refine Below.drew ?_ | with_reducible refine below_drewN ?_ _ | with_reducible refine below_alloc ?_ _ | with_reducible refine Below.alloc ?_ (by first | omega | (simp; done) | (simp; omega)) _ | with_reducible refine Below.setCell ?_ (by first | omega | (simp; done) | (simp; omega)) _ | with_reducible refine below_setRow ?_ (by first | omega | (simp; done) | (simp; omega)) _))⟩
end Go.Proofs.Ythdbiablpkeagaa
