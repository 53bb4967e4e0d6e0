/- Chapter 12's graph in memory. -/
import Derived.Test.YtolfioiccmmifaaDgR
namespace Go.Proofs.Ytolfioiccmmifaa
open Go.RowKit
def cellD (R : Nat → Value) (G : Gr) (i : Nat) : Nat → Value
  | 0 => .int .i64 (G.st i : Nat)
  | 1 => R (2 * i)
  | 2 => R (2 * i + 1)
  | _ => .int .i64 (G.pe i)
def arrG (R : Nat → Value) (G : Gr) : Array Value := ((List.range 404).map fun j => cellD R G (j / 4) (j % 4)).toArray
theorem arrG_size (R : Nat → Value) (G : Gr) : (arrG R G).size = 404 := by simp [arrG]
theorem arrG_get (R : Nat → Value) (G : Gr) {i c : Nat} (hi : i < 101) (hc : c < 4) : (arrG R G)[i * 4 + c]? = some (cellD R G i c) := by
  unfold arrG
  rw [List.getElem?_toArray, List.getElem?_map, List.getElem?_range (by omega)]
  show some (cellD R G ((i * 4 + c) / 4) ((i * 4 + c) % 4)) = _
  rw [show (i * 4 + c) / 4 = i by omega, show (i * 4 + c) % 4 = c by omega]
theorem arrG_set {R R' : Nat → Value} {G G' : Gr} {i c : Nat} {u : Value} (_hi : i < 101) (hc : c < 4) (h : ∀ j d, j < 101 → d < 4 → cellD R' G' j d = if j = i ∧ d = c then u else cellD R G j d) : (arrG R G).setIfInBounds (i * 4 + c) u = arrG R' G' := by
  apply Array.ext
  · rw [Array.size_setIfInBounds, arrG_size, arrG_size]
  · intro j h1 h2
    rw [Array.size_setIfInBounds, arrG_size] at h1
    apply Option.some.inj
    rw [← Array.getElem?_eq_getElem, ← Array.getElem?_eq_getElem, Array.getElem?_setIfInBounds, arrG_size]
    have e : j = j / 4 * 4 + j % 4 := by omega
    have e1 := arrG_get R G (i := j / 4) (c := j % 4) (by omega) (by omega)
    have e2 := arrG_get R' G' (i := j / 4) (c := j % 4) (by omega) (by omega)
    rw [← e] at e1 e2
    rw [e1, e2, h _ _ (by omega) (by omega)]
    by_cases q : i * 4 + c = j
    · rw [if_pos q, if_pos (by omega), if_pos (by omega)]
    · rw [if_neg q, if_neg (by omega)]
theorem zeroG (w : World) : (zeroValue 51).run Try.prog w = .ok (.agg (arrG (fun _ => .slice none 0 0) gr0)) w := by kernel_rfl
/-- The marks of those that were seen. -/
def arrS (f : Nat → Bool) : Array Value := ((List.range 101).map fun j => Value.bool (f j)).toArray
theorem arrS_size (f : Nat → Bool) : (arrS f).size = 101 := by simp [arrS]
theorem arrS_get (f : Nat → Bool) {i : Nat} (hi : i < 101) : (arrS f)[i]? = some (.bool (f i)) := by
  unfold arrS
  rw [List.getElem?_toArray, List.getElem?_map, List.getElem?_range hi]
  rfl
theorem arrS_set (f : Nat → Bool) {i : Nat} (hi : i < 101) (b : Bool) : (arrS f).setIfInBounds i (.bool b) = arrS (upd f i b) := by
  apply Array.ext
  · rw [Array.size_setIfInBounds, arrS_size, arrS_size]
  · intro j h1 h2
    rw [Array.size_setIfInBounds, arrS_size] at h1
    apply Option.some.inj
    rw [← Array.getElem?_eq_getElem, ← Array.getElem?_eq_getElem, Array.getElem?_setIfInBounds, arrS_size, arrS_get _ h1, arrS_get _ h1]
    by_cases e : i = j
    · subst e; rw [if_pos rfl, if_pos hi, upd_same]
    · rw [if_neg e, upd_ne _ _ (Ne.symm e)]
theorem zeroS (w : World) : (zeroValue 70).run Try.prog w = .ok (.agg (arrS (fun _ => false))) w := by kernel_rfl
abbrev rowD (l : List Nat) : List Value := rowZ (toZ l)
structure GrV (B : Nat) (w : World) (H : Nat) (R : Nat → Value) (G : Gr) : Prop where
  hB : B ≤ H
  blk : w.heap[H]? = some (.cells (arrG R G) 51 (0, 0))
  rw : ∀ k, k < 202 → w.ownsRow B 2 1 (R k) (G.X k).length (rowD (G.X k))
  ap : ∀ i j, i < 202 → j < 202 → i ≠ j → ∀ b, (R i).ownBlock = some b → (R j).ownBlock ≠ some b
def FootD (H : Nat) (R : Nat → Value) (k : Nat) : Prop := k = H ∨ ∃ i, i < 202 ∧ (R i).ownBlock = some k
variable {B H : Nat} {w w' : World} {R R' : Nat → Value} {G G' : Gr}
theorem GrV.ltH (h : GrV B w H R G) : H < w.heap.size := lt_of_at h.blk
theorem GrV.le (h : GrV B w H R G) : B ≤ w.heap.size := Nat.le_trans h.hB (Nat.le_of_lt h.ltH)
theorem GrV.foot (h : GrV B w H R G) {k : Nat} (hk : FootD H R k) : B ≤ k ∧ k < w.heap.size := by
  rcases hk with rfl | ⟨i, hi, e⟩
  · exact ⟨h.hB, h.ltH⟩
  · exact (h.rw i hi).lt k e
theorem rowN_kept {n z : Nat} {v : Value} {xs : List Value} {T : TypeId} (h : w.ownsRow B T z v n xs) (e : ∀ b, v.ownBlock = some b → w'.heap[b]? = w.heap[b]?) : w'.ownsRow B T z v n xs := by
  obtain ⟨h1, h2 | ⟨g, cap, cur, rfl, hg, hh, rest⟩⟩ := h
  · exact ⟨h1, .inl h2⟩
  · exact ⟨h1, .inr ⟨g, cap, cur, rfl, hg, (e g rfl).trans hh, rest⟩⟩
theorem GrV.at (h : GrV B w H R G) (e : ∀ k, FootD H R k → w'.heap[k]? = w.heap[k]?) : GrV B w' H R G :=
  ⟨h.hB, (e H (.inl rfl)).trans h.blk, fun k hk => rowN_kept (h.rw k hk) fun b hb => e b (.inr ⟨k, hk, hb⟩), h.ap⟩
theorem GrV.below (h : GrV B w H R G) (hb : Below w.heap.size w w') : GrV B w' H R G := h.at fun k hk => hb.block k (h.foot hk).2
theorem GrV.same (h : GrV B w H R G) (e : ∀ i, i < 101 → G'.st i = G.st i ∧ G'.pe i = G.pe i) (eX : ∀ k, k < 202 → G'.X k = G.X k) : GrV B w H R G' := by
  refine ⟨h.hB, ?_, fun k hk => by rw [eX k hk]; exact h.rw k hk, h.ap⟩
  have : arrG R G' = arrG R G := by
    unfold arrG
    congr 1
    refine List.map_congr_left fun j hj => ?_
    rw [List.mem_range] at hj
    obtain ⟨e1, e2⟩ := e (j / 4) (by omega)
    obtain ⟨c, hc, hc4⟩ : ∃ c, c = j % 4 ∧ c < 4 := ⟨_, rfl, by omega⟩
    rw [← hc]
    match c, hc4 with
    | 0, _ => show Value.int _ _ = Value.int _ _; rw [e1]
    | 1, _ => rfl
    | 2, _ => rfl
    | 3, _ => show Value.int _ _ = Value.int _ _; rw [e2]
  rw [this]; exact h.blk
theorem GrV.cells (h : GrV B w H R G) {i : Nat} (hi : i < 101) : w.cell? ⟨H, i * 4, none⟩ = some (.int .i64 (G.st i : Nat)) ∧ w.cell? ⟨H, i * 4 + 1, none⟩ = some (R (2 * i)) ∧ w.cell? ⟨H, i * 4 + 2, none⟩ = some (R (2 * i + 1)) ∧ w.cell? ⟨H, i * 4 + 3, none⟩ = some (.int .i64 (G.pe i)) :=
  ⟨(blk_cell h.blk _).trans (arrG_get R G hi (c := 0) (by omega)), (blk_cell h.blk _).trans (arrG_get R G hi (c := 1) (by omega)), (blk_cell h.blk _).trans (arrG_get R G hi (c := 2) (by omega)), (blk_cell h.blk _).trans (arrG_get R G hi (c := 3) (by omega))⟩
theorem GrV.free (h : GrV B w H R G) (o : Nat) : w.frozen? ⟨H, o, none⟩ = false := blk_free h.blk o
theorem row_shape {n z : Nat} {v : Value} {xs : List Value} {T : TypeId} (h : w.ownsRow B T z v n xs) : ∃ A cap, v = .slice A n cap := by
  obtain ⟨-, ⟨rfl, h0⟩ | ⟨g, cap, cur, rfl, _⟩⟩ := h
  · exact ⟨none, 0, by rw [h0]⟩
  · exact ⟨_, cap, rfl⟩
theorem GrV.ownNe (h : GrV B w H R G) {i : Nat} (hi : i < 202) : (R i).ownBlock ≠ some H := by
  intro e
  obtain ⟨-, ⟨h3, h4⟩ | ⟨g', cap', cur, h3, -, hh, -⟩⟩ := h.rw i hi
  · rw [h3] at e; cases e
  · rw [h3] at e
    injection e with e
    simp only at e
    rw [e, h.blk] at hh
    injection hh with hh
    injection hh with _ h5
    exact absurd h5 (by decide)
/-- One cell of the graph's block is stored; no row is touched. -/
theorem GrV.set {i c : Nat} {u : Value} (h : GrV B w H R G) (hi : i < 101) (hc : c < 4) (hu : ∀ j d, j < 101 → d < 4 → cellD R G' j d = if j = i ∧ d = c then u else cellD R G j d) (eX : ∀ k, k < 202 → G'.X k = G.X k) :
    GrV B (w.setCell ⟨H, i * 4 + c, none⟩ u) H R G' := by
  refine ⟨h.hB, at_of ⟨_, heap_setCell_same _ _ _ _ _ _ h.blk, arrG_set hi hc hu⟩, fun k hk => ?_, h.ap⟩
  rw [eX k hk]
  exact rowN_kept (h.rw k hk) fun b hb => heap_setCell_other w ⟨H, i * 4 + c, none⟩ b u (fun e => h.ownNe hk (by rw [hb]; exact congrArg some e))
theorem tur_H {o : Nat} {u : Value} : Tur (FootD H R) w (w.setCell ⟨H, o, none⟩ u) := Tur.set _ (.inl (.inl rfl))
theorem GrV.setSt {i : Nat} (h : GrV B w H R G) (hi : i < 101) (z : Nat) : GrV B (w.setCell ⟨H, i * 4, none⟩ (.int .i64 (z : Nat))) H R ⟨upd G.st i z, G.X, G.pe⟩ :=
  h.set (c := 0) hi (by omega) (fun j d hj hd => by
    match d, hd with
    | 0, _ | 1, _ | 2, _ | 3, _ => by_cases e : j = i <;> simp [cellD, upd, e]) (fun _ _ => rfl)
theorem GrV.setPe {i : Nat} (h : GrV B w H R G) (hi : i < 101) (z : Int) : GrV B (w.setCell ⟨H, i * 4 + 3, none⟩ (.int .i64 z)) H R ⟨G.st, G.X, upd G.pe i z⟩ :=
  h.set (c := 3) hi (by omega) (fun j d hj hd => by
    match d, hd with
    | 0, _ | 1, _ | 2, _ | 3, _ => by_cases e : j = i <;> simp [cellD, upd, e]) (fun _ _ => rfl)
/-- A row of the graph is replaced: its own old block may be turned, what is new is its own. -/
theorem GrV.row {k : Nat} {v' : Value} {l' : List Nat} (h : GrV B w H R G) (hk : k < 202) (t : Tur (fun b => (R k).ownBlock = some b) w w') (hr : w'.ownsRow B 2 1 v' l'.length (rowD l')) (gr : ∀ b, v'.ownBlock = some b → (R k).ownBlock = some b ∨ ¬ FootD H R b) :
    GrV B (w'.setCell ⟨H, k / 2 * 4 + 1 + k % 2, none⟩ v') H (upd R k v') ⟨G.st, upd G.X k l', G.pe⟩ := by
  have hH : w'.heap[H]? = w.heap[H]? := t.kept H h.ltH (h.ownNe hk)
  have hset : arrG (upd R k v') ⟨G.st, upd G.X k l', G.pe⟩ = (arrG R G).setIfInBounds (k / 2 * 4 + 1 + k % 2) v' := by
    rw [Nat.add_assoc]
    refine (arrG_set (i := k / 2) (c := 1 + k % 2) (by omega) (by omega) fun j d hj hd => ?_).symm
    match d, hd with
    | 0, _ => rw [if_neg (by omega)]; rfl
    | 3, _ => rw [if_neg (by omega)]; rfl
    | 1, _ =>
      show upd R k v' (2 * j) = _
      by_cases e : 2 * j = k
      · rw [if_pos (by omega), e, upd_same]
      · rw [if_neg (by omega), upd_ne _ _ e]; rfl
    | 2, _ =>
      show upd R k v' (2 * j + 1) = _
      by_cases e : 2 * j + 1 = k
      · rw [if_pos (by omega), e, upd_same]
      · rw [if_neg (by omega), upd_ne _ _ e]; rfl
  have hv' : v'.ownBlock ≠ some H := fun e => by
    rcases gr H e with q | q
    · exact h.ownNe hk q
    · exact q (.inl rfl)
  have hset2 : ∀ {b : Nat}, b ≠ H → (w'.setCell ⟨H, k / 2 * 4 + 1 + k % 2, none⟩ v').heap[b]? = w'.heap[b]? := fun {b} hb => heap_setCell_other w' ⟨H, k / 2 * 4 + 1 + k % 2, none⟩ b v' hb
  refine ⟨h.hB, at_of ⟨_, heap_setCell_same _ _ _ _ _ _ (hH.trans h.blk), hset.symm⟩, fun i hi => ?_, fun i j hi hj hne b hb hb2 => ?_⟩
  · by_cases e : i = k
    · subst e
      show World.ownsRow _ B _ 1 (upd R i v' i) (upd G.X i l' i).length (rowD (upd G.X i l' i))
      rw [upd_same, upd_same]
      exact rowN_kept hr fun b hb => hset2 (fun q => hv' (by rw [hb, q]))
    · show World.ownsRow _ B _ 1 (upd R k v' i) (upd G.X k l' i).length (rowD (upd G.X k l' i))
      rw [upd_ne _ _ e, upd_ne _ _ e]
      exact rowN_kept (h.rw i hi) fun b hb => (hset2 (fun q => h.ownNe hi (by rw [hb, q]))).trans (t.kept b ((h.rw i hi).lt b hb).2 (fun q => h.ap i k hi hk e b hb q))
  · by_cases e : i = k
    · subst e
      rw [upd_same] at hb
      rw [upd_ne _ _ (Ne.symm hne)] at hb2
      rcases gr b hb with q | q
      · exact h.ap i j hi hj hne b q hb2
      · exact q (.inr ⟨j, hj, hb2⟩)
    · rw [upd_ne _ _ e] at hb
      by_cases e2 : j = k
      · subst e2
        rw [upd_same] at hb2
        rcases gr b hb2 with q | q
        · exact h.ap i j hi hj hne b hb q
        · exact q (.inr ⟨i, hi, hb⟩)
      · rw [upd_ne _ _ e2] at hb2
        exact h.ap i j hi hj hne b hb hb2
/-- The blocks are those that were, or new. -/
def GrowD (w : World) (H : Nat) (R R' : Nat → Value) : Prop := ∀ k, FootD H R' k → FootD H R k ∨ w.heap.size ≤ k
theorem GrowD.refl (w : World) (H : Nat) (R : Nat → Value) : GrowD w H R R := fun _ h => .inl h
theorem GrowD.row {k : Nat} {v' : Value} (hk : k < 202) (gr : ∀ b, v'.ownBlock = some b → (R k).ownBlock = some b ∨ w.heap.size ≤ b) : GrowD w H R (upd R k v') := by
  rintro b (rfl | ⟨i, hi, e⟩)
  · exact .inl (.inl rfl)
  · by_cases q : i = k
    · subst q
      rw [upd_same] at e
      rcases gr b e with q | q
      · exact .inl (.inr ⟨i, hi, q⟩)
      · exact .inr q
    · rw [upd_ne _ _ q] at e
      exact .inl (.inr ⟨i, hi, e⟩)
theorem GrowD.trans {R2 : Nat → Value} {w2 : World} (h : GrowD w H R R') (k : GrowD w2 H R' R2) (hs : w.heap.size ≤ w2.heap.size) : GrowD w H R R2 := fun i hi => by
  rcases k i hi with q | q
  · exact h i q
  · exact .inr (Nat.le_trans hs q)
theorem GrV.new_not (h : GrV B w H R G) {b : Nat} (hb : w.heap.size ≤ b) : ¬ FootD H R b := fun q => by have := (h.foot q).2; omega
theorem GrV.start {H : Nat} (hB : B ≤ H) (h : w.heap[H]? = some (.cells (arrG (fun _ => .slice none 0 0) gr0) 51 (0, 0))) : GrV B w H (fun _ => .slice none 0 0) gr0 :=
  ⟨hB, h, fun _ _ => World.ownsRow_nil _ _ _ _, fun _ _ _ _ _ _ hb => nomatch hb⟩
end Go.Proofs.Ytolfioiccmmifaa
