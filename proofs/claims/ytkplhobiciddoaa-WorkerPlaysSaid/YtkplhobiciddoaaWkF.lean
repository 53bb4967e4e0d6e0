/- Chapter 19's Live: slices.DeleteFunc of the nodes that are not live. -/
import Derived.Test.YtkplhobiciddoaaWkE
import Derived.Laws.CopyRow
namespace Go.Proofs.Ytkplhobiciddoaa
open Go.RowKit Go.Maps Go.WideShapes
theorem flatN_at (l : List Nd) : ∀ j, (h : j < l.length) → ∀ c, c < 8 → (flatN l)[j * 8 + c]? = (cellsN l[j])[c]? := by
  induction l with
  | nil => intro j h; simp at h
  | cons v l ih =>
    intro j h c hc
    cases j with
    | zero =>
      simp only [flatN, Nat.zero_mul, Nat.zero_add, List.getElem_cons_zero]
      rw [List.getElem?_append_left (by simp [cellsN]; omega)]
    | succ j =>
      have hj : j < l.length := by simpa using h
      have := ih j hj c hc
      simp only [flatN]
      rw [List.getElem?_append_right (by simp [cellsN]; omega), show (j + 1) * 8 + c - (cellsN v).length = j * 8 + c by simp [cellsN]; omega]
      exact this
/-- What a walk wants of a row of nodes that is not empty. -/
theorem rowN_cells {B n : Nat} {w : World} {v : Value} {l : List Nd} (h : w.ownsRow B 34 8 v n (flatN l)) (hn : n = l.length) (h0 : 0 < l.length) :
    ∃ g cap, v = .slice (some ⟨g, 0, none⟩) l.length cap ∧ B ≤ g ∧ g < w.heap.size ∧ l.length ≤ cap ∧ (∀ i, w.frozen? ⟨g, i, none⟩ = false) ∧ ∀ j, (hj : j < l.length) → ∀ c, c < 8 → w.cell? ⟨g, j * 8 + c, none⟩ = (cellsN l[j])[c]? := by
  subst hn
  obtain ⟨h3, ⟨-, h4⟩ | ⟨g, cap, cur, rfl, hg, hh, hc, -, hs, ht⟩⟩ := h
  · omega
  · refine ⟨g, cap, rfl, hg, lt_of_at hh, hc, blk_free hh, fun j hj c hc9 => ?_⟩
    rw [blk_cell hh, ← flatN_at l j hj c hc9, ← ht, List.getElem?_take, if_pos (by omega)]
    simp
theorem rowN_slice {B n : Nat} {w : World} {v : Value} {xs : List Value} (h : w.ownsRow B 34 8 v n xs) : ∃ A cap, v = .slice A n cap := by
  obtain ⟨-, ⟨rfl, h0⟩ | ⟨g, cap, cur, rfl, _⟩⟩ := h
  · exact ⟨none, 0, by rw [h0]⟩
  · exact ⟨_, cap, rfl⟩
set_option maxRecDepth 20000 in
set_option maxHeartbeats 1000000 in
theorem closureL (x : Nd) (W : World) : Calls Try.prog 28 #[ndV x] W fun e w' => e = .returned (.bool (!x.live)) ∧ Below W.heap.size W w' := by
  obtain ⟨nx, ex, ⟨cx0, cx1, cx2, cx3⟩, sx, lx⟩ := x
  simp only [ndV, cellsN]
  go_enter Try.func28, Try.ntmps28
  go_wp2
  go_ret
  exact ⟨rfl, (by repeat (first | with_reducible assumption | with_reducible exact Below.refl _ _ | with_reducible refine Below.drew ?_ | with_reducible refine below_drewN ?_ _ | with_reducible refine below_alloc ?_ _ | with_reducible refine Below.alloc ?_ (by first | omega | (simp; done) | (simp; omega)) _ | with_reducible refine Below.setCell ?_ (by first | omega | (simp; done) | (simp; omega)) _ | with_reducible refine below_setRow ?_ (by first | omega | (simp; done) | (simp; omega)) _))⟩
/-- The first that is not live. -/
def deadI : List Nd → Int
  | [] => -1
  | x :: l => if x.live = false then 0 else (if deadI l < 0 then -1 else deadI l + 1)
theorem deadI_at : ∀ (l : List Nd) (k : Nat) (hk : k < l.length), (∀ j, (hj : j < k) → l[j].live = true) → l[k].live = false → deadI l = k
  | [], k, hk, _, _ => by simp at hk
  | x :: l, 0, _, _, e => by simp at e; simp [deadI, e]
  | x :: l, k + 1, hk, hj, e => by
    have h0 := hj 0 (by omega)
    simp at h0
    have := deadI_at l k (by simpa using hk) (fun j hjk => by have := hj (j + 1) (by omega); simpa using this) (by simpa using e)
    unfold deadI
    rw [if_neg (by simp [h0]), this, if_neg (by omega)]
    omega
theorem deadI_none : ∀ (l : List Nd), (∀ j, (hj : j < l.length) → l[j].live = true) → deadI l = -1
  | [], _ => rfl
  | x :: l, h => by
    have h0 := h 0 (by simp)
    simp at h0
    have := deadI_none l (fun j hj => by have := h (j + 1) (by simpa using hj); simpa using this)
    unfold deadI
    rw [if_neg (by simp [h0]), this]
    rfl
set_option maxRecDepth 20000 in
set_option maxHeartbeats 2000000 in
theorem indexF (B : Nat) (v : Value) (l : List Nd) (w : World) (h : w.ownsRow B 34 8 v l.length (flatN l)) (hm : l.length ≤ 100000) :
    Calls Try.prog 44 #[v, .func (.func 28) #[] #[]] w fun e w' => e = .returned (.int .i64 (deadI l)) ∧ Below w.heap.size w w' := by
  rcases Nat.eq_zero_or_pos l.length with h0 | h0
  · have hl : l = [] := List.length_eq_zero_iff.1 h0
    subst hl
    obtain ⟨A, cap, rfl⟩ := rowN_slice h
    clear h
    go_enter Try.func44, Try.ntmps44
    go_wp2
    refine wp_loop_rounds 1 ?_
    rw [rounds_succ]
    go_wp2
    go_ret
    exact ⟨rfl, Below.refl _ _⟩
  · obtain ⟨g, cap, rfl, hg, hgl, hcap, hgf, hcell⟩ := rowN_cells h rfl h0
    have hm' : l.length ≤ 9223372036854775000 := by omega
    clear h h0 hm hcap
    go_enter Try.func44, Try.ntmps44
    go_wp2
    go_loopw [8] (fun i wr => ∃ k : Nat, k ≤ l.length ∧ i = .int .i64 k ∧ Hid (∀ j, (hj : j < l.length) → j < k → l[j].live = true) ∧ Below w.heap.size w wr) (fun i _ => l.length - (intOf i).toNat)
    case atStart => exact ⟨0, Nat.zero_le _, rfl, fun j _ h => by omega, Below.refl _ _⟩
    case round =>
      obtain ⟨k, hk, rfl, hno, hbel⟩ := hrel
      have hsr := hbel.size
      by_cases hkl : k < l.length
      · have hc : ∀ c, c < 8 → wr.cell? ⟨g, k * 8 + c, none⟩ = (cellsN l[k])[c]? := fun c hc => (hbel.cell (p := ⟨g, k * 8 + c, none⟩) hgl).trans (hcell k hkl c hc)
        obtain ⟨x, hx⟩ : ∃ x, x = l[k] := ⟨_, rfl⟩
        rw [← hx] at hc
        have HX := hid hx
        have hC := closureL x
        obtain ⟨nx, ex, ⟨cx0, cx1, cx2, cx3⟩, sx, lx⟩ := x
        simp only [ndV, cellsN] at hC
        have e0 : wr.cell? ⟨g, k * 8, none⟩ = some (.string nx) := (hc 0 (by omega)).trans rfl
        have e1 : wr.cell? ⟨g, k * 8 + 1, none⟩ = some (.int .i64 ex) := (hc 1 (by omega)).trans rfl
        have e2 : wr.cell? ⟨g, k * 8 + 2, none⟩ = some (.int .i64 cx0) := (hc 2 (by omega)).trans rfl
        have e3 : wr.cell? ⟨g, k * 8 + 3, none⟩ = some (.int .i64 cx1) := (hc 3 (by omega)).trans rfl
        have e4 : wr.cell? ⟨g, k * 8 + 4, none⟩ = some (.int .i64 cx2) := (hc 4 (by omega)).trans rfl
        have e5 : wr.cell? ⟨g, k * 8 + 5, none⟩ = some (.int .i64 cx3) := (hc 5 (by omega)).trans rfl
        have e6 : wr.cell? ⟨g, k * 8 + 6, none⟩ = some (.int .i64 sx) := (hc 6 (by omega)).trans rfl
        have e7 : wr.cell? ⟨g, k * 8 + 7, none⟩ = some (.bool lx) := (hc 7 (by omega)).trans rfl
        have R1 : Hid (k + 1 ≤ l.length) := hkl
        have HKL := hid hkl
        clear hx hc
        go_wp2_with fail
        refine (hC _).mono ?_
        rintro e w1 ⟨rfl, hb1⟩
        have hB1 := hbel.trans (hb1.mono hsr)
        clear e0 e1 e2 e3 e4 e5 e6 e7 hC hb1
        cases lx with
        | false =>
          have hf : deadI l = k := deadI_at l k HKL.out (fun j hj => hno.out j (by have := HKL.out; omega) hj) (by rw [← HX.out])
          go_wp2
          go_ret
          exact ⟨by rw [hf]; rfl, hB1⟩
        | true =>
          go_wp2
          go_roundw
          case rel =>
            refine ⟨k + 1, R1.out, by go_num, fun j hj hjk => ?_, hB1⟩
            by_cases e : j = k
            · subst e; rw [← HX.out]
            · exact hno.out j hj (by omega)
          case measure => simp [intOf]; omega
      · obtain rfl : k = l.length := by omega
        have hf : deadI l = -1 := deadI_none l (fun j hj => hno.out j hj hj)
        go_wp2
        go_ret
        exact ⟨by rw [hf]; rfl, hbel⟩
theorem flatN_put (l : List Nd) (x : Nd) : ∀ j, (h : j < l.length) → ((((((((flatN l).set (j * 8) (.string x.name)).set (j * 8 + 1) (.int .i64 x.epoch)).set (j * 8 + 2) (.int .i64 x.cap.1)).set (j * 8 + 3) (.int .i64 x.cap.2.1)).set (j * 8 + 4) (.int .i64 x.cap.2.2.1)).set (j * 8 + 5) (.int .i64 x.cap.2.2.2)).set (j * 8 + 6) (.int .i64 x.seen)).set (j * 8 + 7) (.bool x.live) = flatN (l.set j x) := by
  induction l with
  | nil => intro j h; simp at h
  | cons v l ih =>
    intro j h
    cases j with
    | zero => simp [flatN, cellsN]
    | succ j =>
      have hj : j < l.length := by simpa using h
      have := ih j hj
      simp only [flatN, List.set_cons_succ]
      rw [← this]
      have e : ∀ (q : List Value) (c : Nat) (u : Value), (cellsN v ++ q).set ((j + 1) * 8 + c) u = cellsN v ++ q.set (j * 8 + c) u := fun q c u => by
        rw [List.set_append_right _ _ (by simp [cellsN]; omega), show (j + 1) * 8 + c - (cellsN v).length = j * 8 + c by simp [cellsN]; omega]
      have e0 : (cellsN v ++ flatN l).set ((j + 1) * 8) (.string x.name) = cellsN v ++ (flatN l).set (j * 8) (.string x.name) := e (flatN l) 0 (.string x.name)
      rw [e0, e, e, e, e, e, e, e]
/-- A whole node is stored into its place. -/
theorem rowN_put {B g n cap j : Nat} {w : World} {l : List Nd} (h : w.ownsRow B 34 8 (.slice (some ⟨g, 0, none⟩) n cap) n (flatN l)) (hj : j < l.length) (x : Nd) :
    ((((((((w.setCell ⟨g, j * 8, none⟩ (.string x.name)).setCell ⟨g, j * 8 + 1, none⟩ (.int .i64 x.epoch)).setCell ⟨g, j * 8 + 2, none⟩ (.int .i64 x.cap.1)).setCell ⟨g, j * 8 + 3, none⟩ (.int .i64 x.cap.2.1)).setCell ⟨g, j * 8 + 4, none⟩ (.int .i64 x.cap.2.2.1)).setCell ⟨g, j * 8 + 5, none⟩ (.int .i64 x.cap.2.2.2)).setCell ⟨g, j * 8 + 6, none⟩ (.int .i64 x.seen)).setCell ⟨g, j * 8 + 7, none⟩ (.bool x.live)).ownsRow B 34 8 (.slice (some ⟨g, 0, none⟩) n cap) n (flatN (l.set j x)) := by
  rw [← flatN_put l x j hj]
  exact ((((((((h.stored (j * 8) _).1.stored (j * 8 + 1) _).1.stored (j * 8 + 2) _).1.stored (j * 8 + 3) _).1.stored (j * 8 + 4) _).1.stored (j * 8 + 5) _).1.stored (j * 8 + 6) _).1.stored (j * 8 + 7) _).1
theorem deadI_or : ∀ (l : List Nd), (deadI l = -1 ∧ ∀ x ∈ l, x.live = true) ∨ ∃ k, ∃ h : k < l.length, deadI l = k ∧ (∀ j, (hj : j < k) → l[j].live = true) ∧ l[k].live = false
  | [] => .inl ⟨rfl, fun _ h => nomatch h⟩
  | x :: l => by
    unfold deadI
    cases hx : x.live with
    | false => exact .inr ⟨0, by simp, by simp, fun j hj => by omega, by simpa using hx⟩
    | true =>
      rw [if_neg (by simp)]
      rcases deadI_or l with ⟨h1, h2⟩ | ⟨k, hk, h1, h2, h3⟩
      · refine .inl ⟨by rw [h1]; rfl, fun y hy => ?_⟩
        rcases List.mem_cons.1 hy with rfl | hy
        · exact hx
        · exact h2 y hy
      · refine .inr ⟨k + 1, by simp; omega, by rw [h1, if_neg (by omega)]; omega, fun j hj => ?_, by simpa using h3⟩
        cases j with
        | zero => simpa using hx
        | succ j => have := h2 j (by omega); simpa using this
theorem filter_all {l : List Nd} (h : ∀ x ∈ l, x.live = true) : l.filter (·.live) = l := List.filter_eq_self.2 h
/-- Cells that are turned from a place on leave what is ahead. -/
theorem setCells_keep {g : Nat} {t : TypeId} : ∀ (vs : List Value) (o : Nat) (W : World) (cur : Array Value), W.heap[g]? = some (.cells cur t (0, 0)) → ∃ cur', (W.setCells g o vs).heap[g]? = some (.cells cur' t (0, 0)) ∧ cur'.size = cur.size ∧ ∀ m, m ≤ o → cur'.toList.take m = cur.toList.take m
  | [], _, _, cur, h => ⟨cur, h, rfl, fun _ _ => rfl⟩
  | v :: vs, o, W, cur, h => by
    obtain ⟨cur', h1, h2, h3⟩ := setCells_keep vs (o + 1) (W.setCell ⟨g, o, none⟩ v) (cur.setIfInBounds o v) (heap_setCell_same _ _ _ _ _ _ h)
    refine ⟨cur', h1, by rw [h2]; simp, fun m hm => ?_⟩
    rw [h3 m (by omega)]
    simp only [Array.toList_setIfInBounds]
    rw [List.take_set_of_le (by omega)]
theorem setCells_below {g B : Nat} (hg : B ≤ g) : ∀ (vs : List Value) (o : Nat) (W : World), Below B W (W.setCells g o vs)
  | [], _, _ => Below.refl _ _
  | v :: vs, o, W => ((Below.refl B W).setCell (p := ⟨g, o, none⟩) hg v).trans (setCells_below hg vs (o + 1) _)
theorem zeroCells_one (n : Nat) : ∀ v ∈ (Builtin.zeroCells (ndV zeroN).cells n).toList, v.oneCell' = true := by
  intro v hv
  simp only [Builtin.zeroCells, Array.mem_toList_iff, Array.mem_map, Array.mem_range] at hv
  obtain ⟨i, -, rfl⟩ := hv
  have h8 : i % (ndV zeroN).cells.size < 8 := Nat.mod_lt _ (by decide)
  have : ∀ k, k < 8 → ((ndV zeroN).cells[k]!).oneCell' = true := by decide
  exact this _ h8
end Go.Proofs.Ytkplhobiciddoaa
