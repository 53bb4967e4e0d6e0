/- Chapter 12: Add, what its walk needs. -/
import Derived.Test.YtolfioiccmmifaaDgD
namespace Go.Proofs.Ytolfioiccmmifaa
open Go.RowKit
variable {B H : Nat} {w w' : World} {R R' : Nat → Value} {G G' : Gr}
/-- The first i parents have got their child. -/
def Gr.addC (G : Gr) (id : Nat) (l : List Nat) (i : Nat) : Gr := ⟨G.st, fun k => if k % 2 = 1 ∧ k / 2 ∈ l.take i then G.X k ++ [id] else G.X k, G.pe⟩
theorem addC_zero (G : Gr) (id : Nat) (l : List Nat) : G.addC id l 0 = G := by
  unfold Gr.addC
  cases G
  simp
theorem addC_next {id x i : Nat} {l : List Nat} (hn : l.Nodup) (hi : i < l.length) (hx : l[i] = x) : (G.addC id l (i + 1)).X = upd (G.addC id l i).X (2 * x + 1) ((G.addC id l i).X (2 * x + 1) ++ [id]) ∧ (G.addC id l i).X (2 * x + 1) = G.ch x := by
  have hnot : x ∉ l.take i := fun h => by
    obtain ⟨j, hj, e⟩ := List.mem_iff_getElem.1 h
    rw [List.getElem_take] at e
    rw [List.length_take] at hj
    have := (List.getElem_inj hn).1 (e.trans hx.symm)
    omega
  have e0 : (G.addC id l i).X (2 * x + 1) = G.ch x := by
    show (if _ then _ else _) = _
    rw [if_neg (fun q => hnot (by rw [show (2 * x + 1) / 2 = x by omega] at q; exact q.2))]
    rfl
  refine ⟨?_, e0⟩
  funext k
  unfold upd
  rw [e0]
  show (if k % 2 = 1 ∧ k / 2 ∈ l.take (i + 1) then G.X k ++ [id] else G.X k) = if k = 2 * x + 1 then _ else (if k % 2 = 1 ∧ k / 2 ∈ l.take i then G.X k ++ [id] else G.X k)
  rw [List.take_add_one, List.getElem?_eq_getElem hi, hx]
  by_cases e : k = 2 * x + 1
  · rw [if_pos e, e, if_pos ⟨by omega, by rw [show (2 * x + 1) / 2 = x by omega]; simp⟩]
    rfl
  · rw [if_neg e]
    by_cases q : k % 2 = 1 ∧ k / 2 ∈ l.take i
    · rw [if_pos q, if_pos ⟨q.1, by simp [q.2]⟩]
    · rw [if_neg q, if_neg]
      rintro ⟨q1, q2⟩
      simp at q2
      rcases q2 with q2 | q2
      · exact q ⟨q1, q2⟩
      · omega
theorem addC_all {id : Nat} {l : List Nat} {k : Nat} : upd (G.addC id l l.length).X (2 * id) l k = (G.add id l).X k := by
  unfold upd
  show (if k = 2 * id then l else if k % 2 = 1 ∧ k / 2 ∈ l.take l.length then _ else _) = G.addX id l k
  rw [List.take_length]
  rfl
/-- What Add answers, and what is there behind it. -/
inductive AddP (B H : Nat) (w : World) (R : Nat → Value) (G : Gr) (id : Int) (zs : List Int) (e : Ending) (w' : World) : Prop
  | range : ¬ (okId id ∧ ∀ z ∈ zs, okId z) → e = .returned (.tuple #[.bool false, .int .i64 2]) → Below w.heap.size w w' → AddP B H w R G id zs e w'
  | twice : (okId id ∧ ∀ z ∈ zs, okId z) → G.st id.toNat ≠ 0 → e = .returned (.tuple #[.bool false, .int .i64 5]) → Below w.heap.size w w' → AddP B H w R G id zs e w'
  | cycle : (okId id ∧ ∀ z ∈ zs, okId z) → G.st id.toNat = 0 → (∃ p ∈ dd zs, p = id.toNat ∨ G.Rch id.toNat p) → e = .returned (.tuple #[.bool false, .int .i64 8]) → Below w.heap.size w w' → AddP B H w R G id zs e w'
  | state : (okId id ∧ ∀ z ∈ zs, okId z) → G.st id.toNat = 0 → (∀ p ∈ dd zs, p ≠ id.toNat ∧ ¬ G.Rch id.toNat p) → (∃ p ∈ dd zs, G.st p = 3) → e = .returned (.tuple #[.bool false, .int .i64 10]) → Below w.heap.size w w' → AddP B H w R G id zs e w'
  | ok : (okId id ∧ ∀ z ∈ zs, okId z) → G.Fit id.toNat (dd zs) → e = .returned (.tuple #[.bool (decide (G.cntN (dd zs) = 0)), .int .i64 0]) → (∃ R', GrV B w' H R' (G.add id.toNat (dd zs)) ∧ GrowD w H R R') → Tur (FootD H R) w w' → AddP B H w R G id zs e w'
theorem dd_mem {zs : List Int} {x : Nat} : x ∈ dd zs ↔ x ≤ 100 ∧ (x : Int) ∈ zs := pick_mem
theorem dd_ok {zs : List Int} (h : ∀ z ∈ zs, okId z) : ∀ p ∈ dd zs, 1 ≤ p ∧ p ≤ 100 := fun p hp => by
  obtain ⟨-, h2⟩ := dd_mem.1 hp
  obtain ⟨h3, h4⟩ := h _ h2
  omega
/-- Of the first i, so many aren't done. -/
def Gr.cntI (G : Gr) (l : List Nat) (i : Nat) : Nat := G.cntN (l.take i)
theorem cntI_next {l : List Nat} {i x : Nat} (hi : i < l.length) (hx : l[i] = x) : G.cntI l (i + 1) = G.cntI l i + if G.st x ≠ 2 then 1 else 0 := by
  unfold Gr.cntI Gr.cntN
  rw [List.take_add_one, List.getElem?_eq_getElem hi, hx, List.countP_append]
  simp
theorem cntI_le (G : Gr) (l : List Nat) (i : Nat) : G.cntI l i ≤ l.length := by
  unfold Gr.cntI Gr.cntN
  refine Nat.le_trans List.countP_le_length ?_
  rw [List.length_take]
  omega
theorem pick_has {Q : Nat → Prop} {x : Nat} (hx : x ≤ 100) : (toZ (pick Q)).contains (x : Int) = true ↔ Q x := by
  rw [List.contains_iff_mem, toZ_mem]
  constructor
  · rintro ⟨y, hy, e⟩
    have : y = x := by omega
    subst this
    exact (pick_mem.1 hy).2
  · intro h
    exact ⟨x, pick_mem.2 ⟨hx, h⟩, rfl⟩
theorem row_elem {b n cap i : Nat} {A : Option Addr} {l : List Nat} (h : w.ownsRow b 2 1 (.slice A n cap) n (rowD l)) (hi : i < l.length) : ∃ g x, A = some ⟨g, 0, none⟩ ∧ g < w.heap.size ∧ w.cell? ⟨g, i, none⟩ = some (.int .i64 (x : Nat)) ∧ x ∈ l ∧ l[i]? = some x := by
  have hl : l.length = n := by have := h.1; simpa using this
  obtain ⟨g, c, e, -, hg, -, hc⟩ := getD_row h (by omega)
  injection e with e1 e2 e3
  refine ⟨g, l[i], e1, hg, ?_, List.getElem_mem _, List.getElem?_eq_getElem hi⟩
  rw [hc i (by omega)]
  simp [hi]
theorem take_next {i x : Nat} {l : List Nat} (h : l[i]? = some x) : l.take (i + 1) = l.take i ++ [x] := by
  rw [List.take_add_one, h]; rfl
theorem getq {i x : Nat} {l : List Nat} (h : l[i]? = some x) : ∃ hi : i < l.length, l[i] = x := by
  obtain ⟨hi, e⟩ := List.getElem?_eq_some_iff.1 h
  exact ⟨hi, e⟩
theorem addC_next' {id x i : Nat} {l : List Nat} (hn : l.Nodup) (h : l[i]? = some x) : (G.addC id l (i + 1)).X = upd (G.addC id l i).X (2 * x + 1) ((G.addC id l i).X (2 * x + 1) ++ [id]) ∧ (G.addC id l i).X (2 * x + 1) = G.ch x := by
  obtain ⟨hi, e⟩ := getq h
  exact addC_next hn hi e
theorem cntI_next' {l : List Nat} {i x : Nat} (h : l[i]? = some x) : G.cntI l (i + 1) = G.cntI l i + if G.st x ≠ 2 then 1 else 0 := by
  obtain ⟨hi, e⟩ := getq h
  exact cntI_next hi e
/-- A child is put behind those of job x. -/
theorem add_child {x y cap n : Nat} {A : Option Addr} (h : GrV B w H R G) (hx : x ≤ 100) (hn : (G.ch x).length ≤ 100000) (hn2 : (G.X (2 * x + 1)).length = n) (eA : R (2 * x + 1) = .slice A n cap) :
    ∃ A' cap' w', (Builtin.append_ #[31, 31] 31 #[.slice A n cap, .slice (some ⟨w.heap.size, 0, none⟩) 1 1]).run Try.prog (w.alloc (.cells #[.int .i64 (y : Int)] 2)).drew = .ok (.slice A' (n + 1) cap') w' ∧
      w'.cell? ⟨H, x * 4 + 2, none⟩ = some (.slice A n cap) ∧ w'.frozen? ⟨H, x * 4 + 2, none⟩ = false ∧ H < w'.heap.size ∧
      GrV B (w'.setCell ⟨H, x * 4 + 2, none⟩ (.slice A' (n + 1) cap')) H (upd R (2 * x + 1) (.slice A' (n + 1) cap')) ⟨G.st, upd G.X (2 * x + 1) (G.X (2 * x + 1) ++ [y]), G.pe⟩ ∧
      GrowD w H R (upd R (2 * x + 1) (.slice A' (n + 1) cap')) ∧ Tur (FootD H R) w (w'.setCell ⟨H, x * 4 + 2, none⟩ (.slice A' (n + 1) cap')) := by
  have hb0 : Below w.heap.size w (w.alloc (.cells #[.int .i64 (y : Int)] 2)).drew := (by repeat (first | with_reducible assumption | with_reducible exact Below.refl _ _ | with_reducible refine Below.drew ?_ | with_reducible refine below_drewN ?_ _ | with_reducible refine below_alloc ?_ _ | with_reducible refine Below.alloc ?_ (by first | omega | (simp; done) | (simp; omega)) _ | with_reducible refine Below.setCell ?_ (by first | omega | (simp; done) | (simp; omega)) _ | with_reducible refine below_setRow ?_ (by first | omega | (simp; done) | (simp; omega)) _))
  have h1 := h.below hb0
  have hr := h1.rw (2 * x + 1) (by omega)
  rw [eA, hn2] at hr
  have ha : (w.alloc (.cells #[.int .i64 (y : Int)] 2)).drew.heap[w.heap.size]? = some (.cells #[.int .i64 (y : Int)] 2 (0, 0)) := heap_drew_at (alloc_at w _)
  have hsz : w.heap.size ≤ (w.alloc (.cells #[.int .i64 (y : Int)] 2)).drew.heap.size := hb0.size
  generalize (w.alloc (.cells #[.int .i64 (y : Int)] 2)).drew = W at *
  obtain ⟨A', cap', w', happ, hown, hG, hat⟩ := app_src (cap2 := 1) hr (slz_one ha) (by unfold Gr.ch at hn; omega) h1.le
  have ht : Tur (fun b => (R (2 * x + 1)).ownBlock = some b) W w' := Tur.of_grown hG (fun g hg => .inl (by rw [eA]; exact hg))
  have hH' : w'.heap[H]? = W.heap[H]? := ht.kept H h1.ltH (h1.ownNe (by omega))
  have hl2 : n + 1 = (G.X (2 * x + 1) ++ [y]).length := by rw [List.length_append, hn2]; rfl
  have hgr : ∀ b, (Value.slice A' (n + 1) cap').ownBlock = some b → (R (2 * x + 1)).ownBlock = some b ∨ W.heap.size ≤ b := fun b hb => by
    rw [eA]; exact hat b hb
  have e4 : (2 * x + 1) / 2 * 4 + 1 + (2 * x + 1) % 2 = x * 4 + 2 := by omega
  have hrow := GrV.row (l' := G.X (2 * x + 1) ++ [y]) h1 (k := 2 * x + 1) (by omega) ht (by rw [← hl2]; rw [toZ_snoc] at hown; exact hown) (fun b hb => (hgr b hb).imp id (fun q => h1.new_not q))
  rw [e4] at hrow
  refine ⟨A', cap', w', happ, ?_, ?_, ?_, hrow, ?_, ?_⟩
  · rw [World.cell?_of_block (w := W) (a := ⟨H, x * 4 + 2, none⟩) hH']
    have := (h1.cells (i := x) (by omega)).2.2.1
    rw [eA] at this
    exact this
  · rw [World.frozen?_of_block (w := W) (a := ⟨H, x * 4 + 2, none⟩) hH']
    exact h1.free _
  · exact Nat.lt_of_lt_of_le h1.ltH ht.size
  · exact GrowD.row (by omega) (fun b hb => (hgr b hb).imp id (fun q => Nat.le_trans hsz q))
  · refine ((Tur.of_below hb0).then (ht.mono fun k hk => .inl (.inr ⟨2 * x + 1, by omega, hk⟩))).then (Tur.set _ (.inl (.inl rfl)))
/-- The job itself is stored. -/
theorem add_final {y cap n : Nat} {A : Option Addr} {l : List Nat} (h : GrV B w H R (G.addC y l l.length)) (hy : y ≤ 100) (hr : w.ownsRow B 2 1 (.slice A n cap) n (rowD l)) (hn : l.length = n) (hap : ∀ b, (Value.slice A n cap).ownBlock = some b → ¬ FootD H R b) :
    GrV B ((((w.setCell ⟨H, y * 4, none⟩ (.int .i64 1)).setCell ⟨H, y * 4 + 1, none⟩ (.slice A n cap)).setCell ⟨H, y * 4 + 2, none⟩ (R (2 * y + 1))).setCell ⟨H, y * 4 + 3, none⟩ (.int .i64 (G.cntN l : Nat))) H (upd R (2 * y) (.slice A n cap)) (G.add y l) ∧
    Tur (FootD H R) w ((((w.setCell ⟨H, y * 4, none⟩ (.int .i64 1)).setCell ⟨H, y * 4 + 1, none⟩ (.slice A n cap)).setCell ⟨H, y * 4 + 2, none⟩ (R (2 * y + 1))).setCell ⟨H, y * 4 + 3, none⟩ (.int .i64 (G.cntN l : Nat))) := by
  refine ⟨?_, ((tur_H.then tur_H).then tur_H).then tur_H⟩
  have h1 := h.setSt (i := y) (by omega) 1
  have hrr : (w.setCell ⟨H, y * 4, none⟩ (.int .i64 1)).ownsRow B 2 1 (.slice A n cap) n (rowD l) := rowN_kept hr fun b hb => heap_setCell_other w ⟨H, y * 4, none⟩ b _ (fun e => hap b hb (.inl e))
  have h2 := GrV.row (l' := l) h1 (k := 2 * y) (by omega) (Tur.refl _ _) (by rw [hn]; exact hrr) (fun b hb => .inr (hap b hb))
  rw [show 2 * y / 2 * 4 + 1 + 2 * y % 2 = y * 4 + 1 by omega] at h2
  have e2 : upd R (2 * y) (.slice A n cap) (2 * y + 1) = R (2 * y + 1) := upd_ne _ _ (by omega)
  have h3 := h2.set (i := y) (c := 2) (u := R (2 * y + 1)) (G' := ⟨upd G.st y 1, upd (G.addC y l l.length).X (2 * y) l, G.pe⟩) (by omega) (by omega) (fun j d hj hd => by
    match d, hd with
    | 0, _ | 1, _ | 3, _ => rw [if_neg (by omega)]; rfl
    | 2, _ =>
      by_cases e : j = y
      · subst e; rw [if_pos ⟨rfl, rfl⟩]; exact e2
      · rw [if_neg (fun q => e q.1)]; rfl) (fun _ _ => rfl)
  have h4 := h3.setPe (i := y) (by omega) (G.cntN l : Nat)
  have eG : (⟨upd G.st y 1, upd (G.addC y l l.length).X (2 * y) l, upd G.pe y (G.cntN l : Nat)⟩ : Gr) = G.add y l := by
    unfold Gr.add
    congr 1
    exact funext fun k => addC_all
  rw [eG] at h4
  exact h4
end Go.Proofs.Ytolfioiccmmifaa
