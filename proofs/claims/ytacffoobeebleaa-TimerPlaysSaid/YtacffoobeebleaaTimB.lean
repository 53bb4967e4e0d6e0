/- Contracts of chapter 10's calls on no clock; what the law asks first. -/
import Derived.Test.YtacffoobeebleaaTimA
namespace Go.Proofs.Ytacffoobeebleaa
open Go.RowKit
section
set_option maxHeartbeats 1000000
theorem nlen (w : World) : Calls Try.prog 12 #[.pointer none] w fun e w' => e = .returned (.int .i64 0) ∧ Below w.heap.size w w' := by
  go_enter Try.func12, Try.ntmps12
  go_wp2
  go_ret
  exact ⟨rfl, Below.refl _ _⟩
theorem nset (s : ByteArray) (t : Int) (w : World) : Calls Try.prog 11 #[.pointer none, .string s, .int .i64 t] w fun e w' => e = .returned (.int .i64 10) ∧ Below w.heap.size w w' := by
  go_enter Try.func11, Try.ntmps11
  go_wp2
  go_ret
  exact ⟨rfl, Below.refl _ _⟩
theorem nget (s : ByteArray) (w : World) : Calls Try.prog 19 #[.pointer none, .string s] w fun e w' => e = .returned (.tuple #[.int .i64 0, .int .i64 3]) ∧ Below w.heap.size w w' := by
  go_enter Try.func19, Try.ntmps19
  go_wp2
  go_ret2
  exact ⟨rfl, Below.refl _ _⟩
theorem ncancel (s : ByteArray) (w : World) : Calls Try.prog 15 #[.pointer none, .string s] w fun e w' => e = .returned (.int .i64 3) ∧ Below w.heap.size w w' := by
  go_enter Try.func15, Try.ntmps15
  go_wp2_with fail
  refine (nget s w).mono ?_
  rintro e w1 ⟨rfl, hb1⟩
  go_wp2
  go_ret
  exact ⟨rfl, hb1⟩
theorem nnext (w : World) : Calls Try.prog 20 #[.pointer none] w fun e w' => e = .returned (.tuple #[.agg #[.string ByteArray.empty, .int .i64 0], .int .i64 3]) ∧ Below w.heap.size w w' := by
  go_enter Try.func20, Try.ntmps20
  go_wp2_with fail
  refine (nlen _).mono ?_
  rintro e w1 ⟨rfl, hb1⟩
  have A1 := below_at hb1 (n := w.heap.size) (by first | omega | (simp; done) | (simp; omega)) (by (repeat (first | (with_reducible assumption) | (with_reducible exact alloc_at _ _) | ((with_reducible apply alloc_at'); (simp; done)) | (with_reducible apply alloc_at_lt) | (with_reducible apply heap_drew_at) | (with_reducible apply heap_drewN_at) | (with_reducible apply heap_setCell_same) | ((with_reducible apply heap_set_ne); (first | omega | (dsimp only; omega) | (simp; done) | (simp; omega))) | (with_reducible apply setRow_at) | ((with_reducible apply setRow_ne); (first | omega | (dsimp only; omega) | (simp; done) | (simp; omega))))))
  have B1 : Below w.heap.size w w1 := Below.trans (by repeat (first | with_reducible assumption | with_reducible exact Below.refl _ _ | with_reducible refine Below.drew ?_ | with_reducible refine below_drewN ?_ _ | with_reducible refine below_alloc ?_ _ | with_reducible refine Below.alloc ?_ (by first | omega | (simp; done) | (simp; omega)) _ | with_reducible refine Below.setCell ?_ (by first | omega | (simp; done) | (simp; omega)) _ | with_reducible refine below_setRow ?_ (by first | omega | (simp; done) | (simp; omega)) _)) (hb1.mono (by first | omega | (simp; done) | (simp; omega)))
  obtain ⟨a0, a1, af⟩ := two A1
  have la := lt_of_at A1
  clear hb1
  go_wp2
  all_goals
    refine ret_row2 rfl w.heap.size #[.string ByteArray.empty, .int .i64 0] 34 _ rfl Try.underlying34 rfl infoAlS rfl (by apply Exists.intro; refine ⟨?_, ?_⟩; (focus ((repeat (first | (with_reducible assumption) | (with_reducible exact alloc_at _ _) | ((with_reducible apply alloc_at'); (simp; done)) | (with_reducible apply alloc_at_lt) | (with_reducible apply heap_drew_at) | (with_reducible apply heap_drewN_at) | (with_reducible apply heap_setCell_same) | ((with_reducible apply heap_set_ne); (first | omega | (dsimp only; omega) | (simp; done) | (simp; omega))) | (with_reducible apply setRow_at) | ((with_reducible apply setRow_ne); (first | omega | (dsimp only; omega) | (simp; done) | (simp; omega))))))); first | rfl | (simp; done) | (simp; rfl)) ⟨rfl, (by repeat (first | with_reducible assumption | with_reducible exact Below.refl _ _ | with_reducible refine Below.drew ?_ | with_reducible refine below_drewN ?_ _ | with_reducible refine below_alloc ?_ _ | with_reducible refine Below.alloc ?_ (by first | omega | (simp; done) | (simp; omega)) _ | with_reducible refine Below.setCell ?_ (by first | omega | (simp; done) | (simp; omega)) _ | with_reducible refine below_setRow ?_ (by first | omega | (simp; done) | (simp; omega)) _))⟩
theorem ndue (t : Int) (w : World) : Calls Try.prog 13 #[.pointer none, .int .i64 t] w fun e w' => e = .returned (.slice none 0 0) ∧ Below w.heap.size w w' := by
  go_enter Try.func13, Try.ntmps13
  go_wp2
  refine wp_loop_rounds 1 ?_
  rw [rounds_succ]
  go_wp2_with fail
  refine (nlen w).mono ?_
  rintro e w1 ⟨rfl, hb1⟩
  go_wp2
  go_ret
  exact ⟨rfl, hb1⟩
end
theorem one_mem {l : List Al} {a : Al} (h : l.length = 1) (hm : a ∈ l) : l = [a] := by
  match l, h with
  | [x], _ => rw [List.mem_singleton] at hm; rw [hm]
theorem setR_nil {s : ByteArray} {t : Int} {l' : List Al} (h : SetR [] s t l') : l' = [(s, t)] := by
  unfold SetR at h
  rw [if_neg (by simp)] at h
  obtain ⟨h1, h2⟩ := h
  exact one_mem (by simpa [hasN] using h1) ((h2 (s, t)).2 (.inl rfl))
theorem setE_nil (s : ByteArray) : setE [] s = 0 := by simp [setE]
def sA : ByteArray := ⟨#[97]⟩
set_option maxHeartbeats 2000000 in
theorem awake_any (w : World) : Calls Try.prog 9 #[] w fun e w' => e = .returned (.bool true) ∧ Below w.heap.size w w' := by
  go_enter Try.func9, Try.ntmps9
  go_wp2_with fail
  refine (new_any w).mono ?_
  rintro e w1 ⟨rfl, hb1, k1⟩
  have K1 := hid k1
  have B1 := hid hb1
  clear k1 hb1
  go_wp2_with fail
  refine (set_any w.heap.size w.heap.size _ none [] ⟨#[97]⟩ 5 w1 K1.out (by decide)).mono ?_
  rintro e w2 ⟨rfl, v2, m2, l2, k2, q2, t2, f2⟩
  obtain rfl := setR_nil q2
  rw [setE_nil]
  have K2 := hid k2
  have B2 : Hid (Below w.heap.size w w2) := B1.out.trans (t2.below B1.out.size (fun k hk => (K1.out.foot hk).1))
  clear k2 q2 t2 f2
  go_wp2_with fail
  refine (next_some w.heap.size w.heap.size v2 m2 _ w2 K2.out (by simp)).mono ?_
  rintro e w3 ⟨rfl, hb3⟩
  rw [show el [((⟨#[97]⟩, 5) : Al)] 0 = ((⟨#[97]⟩, 5) : Al) from rfl]
  have K3 := hid (K2.out.below hb3)
  have B3 : Below w.heap.size w w3 := B2.out.trans (hb3.mono B2.out.size)
  have s3 := B3.size
  clear hb3
  go_wp2_with fail
  refine (lenc_any w.heap.size w.heap.size v2 m2 _ _ (K3.out.below (by repeat (first | with_reducible assumption | with_reducible exact Below.refl _ _ | with_reducible refine Below.drew ?_ | with_reducible refine below_drewN ?_ _ | with_reducible refine below_alloc ?_ _ | with_reducible refine Below.alloc ?_ (by first | omega | (simp; done) | (simp; omega)) _ | with_reducible refine Below.setCell ?_ (by first | omega | (simp; done) | (simp; omega)) _ | with_reducible refine below_setRow ?_ (by first | omega | (simp; done) | (simp; omega)) _)))).mono ?_
  rintro e w4 ⟨rfl, hb4⟩
  go_wp2
  go_ret
  exact ⟨rfl, Below.trans (by repeat (first | with_reducible assumption | with_reducible exact Below.refl _ _ | with_reducible refine Below.drew ?_ | with_reducible refine below_drewN ?_ _ | with_reducible refine below_alloc ?_ _ | with_reducible refine Below.alloc ?_ (by first | omega | (simp; done) | (simp; omega)) _ | with_reducible refine Below.setCell ?_ (by first | omega | (simp; done) | (simp; omega)) _ | with_reducible refine below_setRow ?_ (by first | omega | (simp; done) | (simp; omega)) _)) (hb4.mono (by first | omega | (simp; done) | (simp; omega)))⟩
/-- The cells of a row of alarms. -/
theorem row_cells {B : Nat} {w : World} {v : Value} {l : List Al} (h : w.ownsRow B 34 2 v l.length (flatT l)) (hn : 0 < l.length) :
    ∃ g cap, v = .slice (some ⟨g, 0, none⟩) l.length cap ∧ B ≤ g ∧ g < w.heap.size ∧ ∀ j, j < l.length → w.cell? ⟨g, j * 2, none⟩ = some (.string (el l j).1) ∧ w.cell? ⟨g, j * 2 + 1, none⟩ = some (.int .i64 (el l j).2) := by
  obtain ⟨h3, ⟨-, h4⟩ | ⟨g, cap, cur, rfl, hg, hh, hc, -, hs, ht⟩⟩ := h
  · omega
  · have hcell : ∀ j, j < l.length → ∀ c, c < 2 → w.cell? ⟨g, j * 2 + c, none⟩ = (cellsT (el l j))[c]? := fun j hj c hc9 => by
      rw [blk_cell hh, ← flatT_at l j hj c hc9, ← ht, List.getElem?_take, if_pos (by omega)]
      simp
    exact ⟨g, cap, rfl, hg, lt_of_at hh, fun j hj => ⟨(hcell j hj 0 (by omega)).trans rfl, (hcell j hj 1 (by omega)).trans rfl⟩⟩
theorem due_one {now : Int} {a : Al} {out l' : List Al} (h : DueR now [a] out l') (ha : a.2 ≤ now) : out = [a] ∧ l' = [] := by
  have hm : a ∈ out := (h.out_iff a).2 ⟨by simp, ha⟩
  have hp : 0 < out.length := List.length_pos_of_mem hm
  have hl := h.len
  simp only [List.length_singleton] at hl
  exact ⟨one_mem (by omega) hm, List.length_eq_zero_iff.1 (by omega)⟩
end Go.Proofs.Ytacffoobeebleaa
