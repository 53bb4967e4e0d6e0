/- Chapter 8's Pop over the heap in memory. -/
import Derived.Test.YteccpjijlkjneaaFbP
namespace Go.Proofs.Yteccpjijlkjneaa
open Go.RowKit
variable {B H g cap : Nat} {w w' : World} {s s' : Hp} {least n : Int}
def keyV (k : K3) : Value := .agg #[.int .u64 k.1, .int .u64 k.2.1, .int .i64 k.2.2]
set_option maxRecDepth 20000 in
set_option maxHeartbeats 4000000 in
theorem pop_none {v : Value} (h : HeapV B w H v s least n) (hn : n = 0) : Calls Try.prog 25 #[.pointer (some ⟨H, 0, none⟩)] w fun e w' => e = .returned (.tuple #[.int .i64 0, keyV (0, 0, 0), .int .i64 3]) ∧ Below w.heap.size w w' := by
  have hl : ∀ W, Below w.heap.size w W → Calls Try.prog 38 #[.pointer (some ⟨H, 0, none⟩)] W fun e w' => e = .returned (.tuple #[.int .i64 0, .agg #[.int .u64 0, .int .u64 0, .int .i64 0], .int .i64 3]) ∧ Below W.heap.size W w' := fun W hb => min_none (h.below hb) hn
  have HL := hid hl
  unfold keyV
  clear h hl hn
  go_enter Try.func25, Try.ntmps25
  go_wp2_with fail
  refine (HL.out _ (by repeat (first | with_reducible assumption | with_reducible exact Below.refl _ _ | with_reducible refine Below.drew ?_ | with_reducible refine below_drewN ?_ _ | with_reducible refine below_alloc ?_ _ | with_reducible refine Below.alloc ?_ (by first | omega | (simp; done) | (simp; omega)) _ | with_reducible refine Below.setCell ?_ (by first | omega | (simp; done) | (simp; omega)) _ | with_reducible refine below_setRow ?_ (by first | omega | (simp; done) | (simp; omega)) _))).mono ?_
  rintro e w1 ⟨rfl, hb1⟩
  have hs1 := hb1.size
  simp only [World.size_alloc] at hs1
  have hz := below_at hb1 (n := w.heap.size) (by simp) (by (repeat (first | (with_reducible assumption) | (with_reducible exact alloc_at _ _) | ((with_reducible apply alloc_at'); (simp; done)) | (with_reducible apply alloc_at_lt) | (with_reducible apply heap_drew_at) | (with_reducible apply heap_drewN_at) | (with_reducible apply heap_setCell_same) | ((with_reducible apply heap_set_ne); (first | omega | (dsimp only; omega) | (simp; done) | (simp; omega))) | (with_reducible apply setRow_at) | ((with_reducible apply setRow_ne); (first | omega | (dsimp only; omega) | (simp; done) | (simp; omega))))))
  have B1 : Below w.heap.size w w1 := Below.trans (by repeat (first | with_reducible assumption | with_reducible exact Below.refl _ _ | with_reducible refine Below.drew ?_ | with_reducible refine below_drewN ?_ _ | with_reducible refine below_alloc ?_ _ | with_reducible refine Below.alloc ?_ (by first | omega | (simp; done) | (simp; omega)) _ | with_reducible refine Below.setCell ?_ (by first | omega | (simp; done) | (simp; omega)) _ | with_reducible refine below_setRow ?_ (by first | omega | (simp; done) | (simp; omega)) _)) (hb1.mono (by first | omega | (simp; done) | (simp; omega)))
  have hl1 : w.heap.size < w1.heap.size := by omega
  have z0 : w1.cell? ⟨w.heap.size, 0, none⟩ = some (.int .u64 0) := (blk_cell hz 0).trans rfl
  have z1 : w1.cell? ⟨w.heap.size, 1, none⟩ = some (.int .u64 0) := (blk_cell hz 1).trans rfl
  have z2 : w1.cell? ⟨w.heap.size, 2, none⟩ = some (.int .i64 0) := (blk_cell hz 2).trans rfl
  have zf := blk_free hz
  have HZ := hid hz
  clear hb1 hz
  go_wp2
  go_region
  all_goals
    go_wp2
    have hz := HZ.out
    refine ret_row3 rfl w.heap.size #[.int .u64 0, .int .u64 0, .int .i64 0] 60 _ rfl Try.underlying60 rfl infoK rfl (by apply Exists.intro; refine ⟨?_, ?_⟩; (focus ((repeat (first | (with_reducible assumption) | (with_reducible exact alloc_at _ _) | ((with_reducible apply alloc_at'); (simp; done)) | (with_reducible apply alloc_at_lt) | (with_reducible apply heap_drew_at) | (with_reducible apply heap_drewN_at) | (with_reducible apply heap_setCell_same) | ((with_reducible apply heap_set_ne); (first | omega | (dsimp only; omega) | (simp; done) | (simp; omega))) | (with_reducible apply setRow_at) | ((with_reducible apply setRow_ne); (first | omega | (dsimp only; omega) | (simp; done) | (simp; omega))))))); simp) ⟨rfl, (by repeat (first | with_reducible assumption | with_reducible exact Below.refl _ _ | with_reducible refine Below.drew ?_ | with_reducible refine below_drewN ?_ _ | with_reducible refine below_alloc ?_ _ | with_reducible refine Below.alloc ?_ (by first | omega | (simp; done) | (simp; omega)) _ | with_reducible refine Below.setCell ?_ (by first | omega | (simp; done) | (simp; omega)) _ | with_reducible refine below_setRow ?_ (by first | omega | (simp; done) | (simp; omega)) _))⟩
theorem upd_k0 (s : Hp) (x : Nat) (z : Int) : Upd s x 0 (.int .u64 z) { s with key := up s.key x (z, (s.key x).2) } := ⟨rfl, fun i d hd => by
  match d, hd with
  | 0, _ | 1, _ | 2, _ | 3, _ | 4, _ | 5, _ | 6, _ | 7, _ | 8, _ | 9, _ => by_cases e : i = x <;> simp [cellH, up, e]⟩
theorem upd_k1 (s : Hp) (x : Nat) (z : Int) : Upd s x 1 (.int .u64 z) { s with key := up s.key x ((s.key x).1, z, (s.key x).2.2) } := ⟨rfl, fun i d hd => by
  match d, hd with
  | 0, _ | 1, _ | 2, _ | 3, _ | 4, _ | 5, _ | 6, _ | 7, _ | 8, _ | 9, _ => by_cases e : i = x <;> simp [cellH, up, e]⟩
theorem upd_k2 (s : Hp) (x : Nat) (z : Int) : Upd s x 2 (.int .i64 z) { s with key := up s.key x ((s.key x).1, (s.key x).2.1, z) } := ⟨rfl, fun i d hd => by
  match d, hd with
  | 0, _ | 1, _ | 2, _ | 3, _ | 4, _ | 5, _ | 6, _ | 7, _ | 8, _ | 9, _ => by_cases e : i = x <;> simp [cellH, up, e]⟩
theorem upd_th (s : Hp) (x : Nat) (z : Bool) : Upd s x 9 (.bool z) { s with th := up s.th x z } := ⟨rfl, fun i d hd => by
  match d, hd with
  | 0, _ | 1, _ | 2, _ | 3, _ | 4, _ | 5, _ | 6, _ | 7, _ | 8, _ | 9, _ => by_cases e : i = x <;> simp [cellH, up, e]⟩
theorem up_up {α : Type} (f : Nat → α) (i : Nat) (a b : α) : up (up f i a) i b = up f i b := by
  funext j
  unfold up
  split <;> rfl
theorem HeapG.cleared {x : Nat} (h : HeapG B w H g cap s least n) (hx : x < s.m) :
    HeapG B ((((((((((w.setCell ⟨g, x * 10, none⟩ (.int .u64 0)).setCell ⟨g, x * 10 + 1, none⟩ (.int .u64 0)).setCell ⟨g, x * 10 + 2, none⟩ (.int .i64 0)).setCell ⟨g, x * 10 + 3, none⟩ (.int .i64 0)).setCell ⟨g, x * 10 + 4, none⟩ (.int .i64 0)).setCell ⟨g, x * 10 + 5, none⟩ (.int .i64 0)).setCell ⟨g, x * 10 + 6, none⟩ (.int .i64 0)).setCell ⟨g, x * 10 + 7, none⟩ (.int .i64 0)).setCell ⟨g, x * 10 + 8, none⟩ (.bool false)).setCell ⟨g, x * 10 + 9, none⟩ (.bool false)) H g cap (s.clear x) least n ∧
    Tur (FootG H g) w ((((((((((w.setCell ⟨g, x * 10, none⟩ (.int .u64 0)).setCell ⟨g, x * 10 + 1, none⟩ (.int .u64 0)).setCell ⟨g, x * 10 + 2, none⟩ (.int .i64 0)).setCell ⟨g, x * 10 + 3, none⟩ (.int .i64 0)).setCell ⟨g, x * 10 + 4, none⟩ (.int .i64 0)).setCell ⟨g, x * 10 + 5, none⟩ (.int .i64 0)).setCell ⟨g, x * 10 + 6, none⟩ (.int .i64 0)).setCell ⟨g, x * 10 + 7, none⟩ (.int .i64 0)).setCell ⟨g, x * 10 + 8, none⟩ (.bool false)).setCell ⟨g, x * 10 + 9, none⟩ (.bool false)) := by
  refine ⟨?_, (((((((((tur_g (w := w)).then tur_g).then tur_g).then tur_g).then tur_g).then tur_g).then tur_g).then tur_g).then tur_g).then tur_g⟩
  have h2 := ((h.set hx (c := 0) (by omega) (upd_k0 s x 0)).set hx (c := 1) (by omega) (upd_k1 _ x 0)).set hx (c := 2) (by omega) (upd_k2 _ x 0)
  have e : ({ s with key := up (up (up s.key x (0, (s.key x).2)) x ((up s.key x (0, (s.key x).2) x).1, 0, (up s.key x (0, (s.key x).2) x).2.2)) x ((up (up s.key x (0, (s.key x).2)) x ((up s.key x (0, (s.key x).2) x).1, 0, (up s.key x (0, (s.key x).2) x).2.2) x).1, (up (up s.key x (0, (s.key x).2)) x ((up s.key x (0, (s.key x).2) x).1, 0, (up s.key x (0, (s.key x).2) x).2.2) x).2.1, 0) } : Hp) = { s with key := up s.key x (0, 0, 0) } := by
    simp only [up_same, up_up]
  have h3 : HeapG B (((w.setCell ⟨g, x * 10, none⟩ (.int .u64 0)).setCell ⟨g, x * 10 + 1, none⟩ (.int .u64 0)).setCell ⟨g, x * 10 + 2, none⟩ (.int .i64 0)) H g cap { s with key := up s.key x (0, 0, 0) } least n := by
    rw [← e]; exact h2
  exact ((((((h3.set hx (c := 3) (by omega) (upd_par _ x 0)).set hx (c := 4) (by omega) (upd_ch _ x 0)).set hx (c := 5) (by omega) (upd_lf _ x 0)).set hx (c := 6) (by omega) (upd_rt _ x 0)).set hx (c := 7) (by omega) (upd_dg _ x 0)).set hx (c := 8) (by omega) (upd_mr _ x false)).set hx (c := 9) (by omega) (upd_th _ x false)
/-- All of one row behind another. -/
theorem app_ints {W : World} {base n m c : Nat} {v : Value} {xs news : List Value} {a : Addr} (hown : W.ownsRow base 3 1 v n xs) (hl : news.length = m) (hnews : ∀ j u, news[j]? = some u → W.cell? (a.add j) = some u) (h1 : ∀ u ∈ news, u.oneCell' = true) (hm : n + m ≤ 10000000) (hbase : base ≤ W.heap.size) :
    ∃ v' w', (Builtin.append_ #[84, 84] 84 #[v, .slice (some a) m c]).run Try.prog W = .ok v' w' ∧ w'.ownsRow base 3 1 v' (n + m) (xs ++ news) ∧ W.grownBy w' v.ownBlock := by
  obtain ⟨i0, hi, hz0, hz1, hz2⟩ := info_parts infoI
  obtain ⟨v', w', h1, h2, h3, -⟩ := run_append_own (P := Try.prog) W base 84 84 3 i0 _ 1 8 Try.underlying84 hi hz0 hz1 hz2 rfl (by omega) v n xs hown a m c news (by omega) hnews h1 (by unfold maxLen; omega) (by omega) hbase
  exact ⟨v', w', h1, h2, h3⟩
end Go.Proofs.Yteccpjijlkjneaa
