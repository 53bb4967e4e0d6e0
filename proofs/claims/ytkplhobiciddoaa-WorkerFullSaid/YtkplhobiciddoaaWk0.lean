/- Chapter 19's table in memory: its block holds the nodes' map and the clock of the leases; what stands and what is turned. -/
import Derived.Test.YtkplhobiciddoaaWkL
import Derived.Test.YtkplhobiciddoaaTimA
import Derived.Test.YtkplhobiciddoaaVecF
import Derived.Test.YtkplhobiciddoaaRunA
namespace Go.Proofs.Ytkplhobiciddoaa
open Go.RowKit Go.Maps Go.WideShapes
theorem grown_below {w w' : World} (h : Below w.heap.size w w') (r : Option Nat) : w.grownBy w' r := ⟨h.os, h.tape, h.output, h.size, fun k hk _ => h.block k hk⟩
theorem only_alloc {a w : World} {row : Option Nat} (h : a.grownBy w row) (o : Obj) : a.grownBy (w.alloc o) row :=
  ⟨h.os, h.tape, h.output, Nat.le_trans h.size (by simp), fun i hi hne => (Below.heap_alloc w o i (Nat.lt_of_lt_of_le hi h.size)).trans (h.block i hi hne)⟩
theorem only_setCell {a w : World} {g : Nat} (h : a.grownBy w (some g)) {p : Addr} (hp : p.block = g ∨ a.heap.size ≤ p.block) (u : Value) : a.grownBy (w.setCell p u) (some g) :=
  ⟨h.os, h.tape, h.output, by simpa [World.setCell] using h.size, fun i hi hne => (Below.heap_setCell w p u i (by
    rintro rfl
    rcases hp with hp | hp
    · exact hne (by rw [hp])
    · omega)).trans (h.block i hi hne)⟩
/-- The clock stands where only the table's first cell has turned. -/
theorem Clk.moved {B c : Nat} {w w' : World} {zn zn' v : Value} {m : Option Nat} {l : List Al} (h : Clk B w c zn v m l) (hc : w'.heap[c]? = some (.cells #[zn', v, .map m] 63 (0, 0)))
    (e : ∀ k, k < w.heap.size → k ≠ c → w'.heap[k]? = w.heap[k]?) (hs : w.heap.size ≤ w'.heap.size) : Clk B w' c zn' v m l := by
  obtain ⟨I, h1, h2⟩ := h.st
  refine ⟨⟨I, ⟨h1.le, hc, ownsRow_at h1.row (fun g hg => e g (h1.row.lt g hg).2 (fun e2 => h1.own_ne (by rw [← e2]; exact hg))), h1.mle, h1.map.at (fun b hb => e b (h1.foot (.inr (.inr hb))).2 (h1.map_ne b hb).1)⟩, h2⟩, h.sz, Nat.le_trans h.le hs, h.hp, h.len⟩
/-- The nodes' map. -/
def NodM (w : World) (nm : Option Nat) (L : List Nd) : Prop := match nm with | none => L = [] | some b => OwnsM w Try.prog 9 ndV b L.length (fnd L)
/-- The table at block T. -/
structure TabS (B : Nat) (w : World) (T : Nat) (nm : Option Nat) (v : Value) (m : Option Nat) (L : List Nd) : Prop where
  clk : ∃ l, Clk B w T (.map nm) v m l ∧ Lk L l
  nle : ∀ b, nm = some b → B ≤ b
  nap : ∀ b, nm = some b → ¬ Foot T v m b
  map : NodM w nm L
  ris : Rising L
  len : L.length ≤ 12
  sz : ∀ x ∈ L, x.name.size ≤ maxLen
  tm : ∀ x ∈ L, 0 ≤ x.seen ∧ x.seen ≤ 1099511627776
/-- Cells of other types than the table's own stand. -/
def KeptX (w w' : World) : Prop := ∀ (k : Nat) (cs : Array Value) (t : TypeId) (f : Nat × Nat), w.heap[k]? = some (.cells cs t f) → t ≠ 63 → t ≠ 71 → w'.heap[k]? = some (.cells cs t f)
def TabB (B : Nat) (w : World) (T : Nat) (L : List Nd) : Prop := ∃ nm v m, TabS B w T nm v m L
section
variable {B T : Nat} {w w' w'' : World} {nm : Option Nat} {v : Value} {m : Option Nat} {L : List Nd}
theorem KeptX.refl (w : World) : KeptX w w := fun _ _ _ _ h _ _ => h
theorem KeptX.trans (h : KeptX w w') (h' : KeptX w' w'') : KeptX w w'' := fun k cs t f hk h1 h2 => h' k cs t f (h k cs t f hk h1 h2) h1 h2
theorem KeptX.of_below (h : Below w.heap.size w w') : KeptX w w' := fun k _ _ _ hk _ _ => (h.block k (lt_of_at hk)).trans hk
theorem KeptX.of_map {b : Nat} (h : w.grownBy w' (some b)) (hm : ∃ es c, w.heap[b]? = some (.map es c)) : KeptX w w' := fun k cs t f hk _ _ => by
  by_cases e : k = b
  · subst e; obtain ⟨es, c, hm⟩ := hm; rw [hm] at hk; cases hk
  · exact (h.block k (lt_of_at hk) (fun e2 => e (by cases e2; rfl))).trans hk
theorem KeptX.of_tur {zn : Value} {l : List Al} (h : Clk B w T zn v m l) (t : Tur (Foot T v m) w w') : KeptX w w' := fun k cs ty f hk h1 h2 => by
  refine (t.kept k (lt_of_at hk) ?_).trans hk
  obtain ⟨I, hc, -⟩ := h.st
  rintro (rfl | hk2 | hk2)
  · rw [hc.blk] at hk
    injection hk with hk
    injection hk with _ h5
    exact h1 h5.symm
  · obtain ⟨-, ⟨rfl, -⟩ | ⟨g, cap, cur, rfl, -, hh, -⟩⟩ := hc.row
    · cases hk2
    · injection hk2 with hk2
      simp only at hk2
      rw [← hk2, hh] at hk
      injection hk with hk
      injection hk with _ h5
      exact h2 h5.symm
  · subst hk2
    obtain ⟨es, c, hm⟩ := OwnsM.isMap (show OwnsM w Try.prog 9 mkI k l.length I from hc.map)
    rw [hm] at hk; cases hk
theorem NodM.lt {b : Nat} (h : NodM w (some b) L) : b < w.heap.size := OwnsM.lt h
theorem NodM.at (h : NodM w nm L) (e : ∀ b, nm = some b → w'.heap[b]? = w.heap[b]?) : NodM w' nm L := by
  cases nm with
  | none => exact h
  | some b => exact OwnsM.at h (e b rfl)
theorem TabS.lt (h : TabS B w T nm v m L) : T < w.heap.size := by obtain ⟨l, h1, -⟩ := h.clk; exact h1.lt
theorem TabS.le (h : TabS B w T nm v m L) : B ≤ T := by obtain ⟨l, h1, -⟩ := h.clk; exact (h1.foot (.inl rfl)).1
theorem TabS.below (h : TabS B w T nm v m L) (hb : Below w.heap.size w w') : TabS B w' T nm v m L := by
  obtain ⟨l, h1, h2⟩ := h.clk
  exact ⟨⟨l, h1.below hb, h2⟩, h.nle, h.nap, h.map.at (fun b e => hb.block b (by subst e; exact h.map.lt)), h.ris, h.len, h.sz, h.tm⟩
theorem TabB.below (h : TabB B w T L) (hb : Below w.heap.size w w') : TabB B w' T L := by
  obtain ⟨nm, v, m, h⟩ := h
  exact ⟨nm, v, m, h.below hb⟩
/-- It stands where a call turns no block of the table's or a node map's make. -/
theorem TabS.tcell (h : TabS B w T nm v m L) : w.cell? ⟨T, 0, none⟩ = some (.map nm) ∧ ∀ i, w.frozen? ⟨T, i, none⟩ = false := by
  obtain ⟨l, h1, -⟩ := h.clk
  obtain ⟨I, h2, -⟩ := h1.st
  exact ⟨(blk_cell h2.blk 0).trans rfl, blk_free h2.blk⟩
theorem zero_node (w : World) : (zeroValue 34).run Try.prog w = .ok (ndV zeroN) w := by kernel_rfl
theorem infoNode : (Try.prog.info? 34).map (·.size) = some 8 := by kernel_rfl
theorem NodM.look_ok (h : NodM w nm L) {s : ByteArray} (hs : s.size ≤ maxLen) :
    (Instr.lookup 57 (.map nm) (.string s) true).run Try.prog w = .ok (.tuple #[ndV ((fnd L (ky s)).getD zeroN), .bool (fnd L (ky s)).isSome]) w := by
  cases nm with
  | none =>
    obtain rfl : L = [] := h
    exact Maps.look_nil true (Maps.string_keyed Try.underlying9) Try.underlying57 (zero_node w) (WideMaps.keyOf_string_mk Try.underlying9 hs)
  | some b => exact OwnsM.look_ok h ndV_inj Try.underlying9 Try.underlying57 (zero_node w) hs
theorem NodM.look (h : NodM w nm L) {s : ByteArray} (hs : s.size ≤ maxLen) :
    (Instr.lookup 57 (.map nm) (.string s) false).run Try.prog w = .ok (ndV ((fnd L (ky s)).getD zeroN)) w := by
  cases nm with
  | none =>
    obtain rfl : L = [] := h
    exact Maps.look_nil false (Maps.string_keyed Try.underlying9) Try.underlying57 (zero_node w) (WideMaps.keyOf_string_mk Try.underlying9 hs)
  | some b => exact OwnsM.look h ndV_inj Try.underlying9 Try.underlying57 (zero_node w) hs
theorem NodM.len (h : NodM w nm L) (ty : TypeId) : (Builtin.len_ #[57] ty #[.map nm]).run Try.prog w = .ok (.int .i64 L.length) w := by
  cases nm with
  | none =>
    obtain rfl : L = [] := h
    exact Maps.len_nil Try.underlying57 ty
  | some b => exact OwnsM.len (h : OwnsM w Try.prog 9 ndV b L.length (fnd L)) Try.underlying57 ty
theorem NodM.store {b : Nat} (h : NodM w (some b) L) (hr : Rising L) (hl : L.length ≤ 12) (x : Nd) (hs : x.name.size ≤ maxLen) :
    ∃ w', (Instr.mapUpdate 57 (.map (some b)) (.string x.name) (ndV x)).run Try.prog w = .ok () w' ∧ NodM w' (some b) (putN L x) ∧ w.grownBy w' (some b) ∧ w'.heap.size = w.heap.size := by
  obtain ⟨w', h1, h2, h3, h4⟩ := OwnsM.store (h : OwnsM w Try.prog 9 ndV b L.length (fnd L)) ndV_inj Try.underlying9 Try.underlying57 (by unfold maxLen; omega) hs x
  refine ⟨w', h1, ?_, h3, h4⟩
  unfold NodM
  rw [put_length hr, fnd_put]
  exact h2
/-- A live node is stored, and then its lease is set. -/
theorem TabS.put {b : Nat} {l : List Al} {w1 w2 : World} (h : TabS B w T (some b) v m L) (x : Nd) (hx : x.live = true) (hsz : x.name.size ≤ maxLen) (hx0 : 0 ≤ x.seen) (hx1 : x.seen ≤ 1099511627776)
    (hlen : (putN L x).length ≤ 12) (hk : Lk L l) (hmx : NodM w1 (some b) (putN L x)) (hg : w.grownBy w1 (some b)) (hc : Clk B w1 T (.map (some b)) v m l)
    (hp : CPost B w1 w2 T (.map (some b)) v m (SetR l x.name (x.seen + 10))) : TabB B w2 T (putN L x) ∧ Below B w w2 ∧ KeptX w w2 := by
  obtain ⟨v', m', l', h1, h2, h3, h4⟩ := hp
  have hl : l.length ≤ 12 := Nat.le_trans (hk.le hc.names.2 hc.names.1) h.len
  unfold SetR at h2
  rw [if_neg (by omega)] at h2
  have hb : b < w1.heap.size := hmx.lt
  have hbf : ¬ Foot T v m b := h.nap b rfl
  have hmb := OwnsM.isMap (show OwnsM w Try.prog 9 ndV b L.length (fnd L) from h.map)
  refine ⟨⟨some b, v', m', ⟨l', h1, hk.put h.ris x hx h2.2⟩, h.nle, fun b' e => ?_, hmx.at (fun b' e => ?_), rising_put h.ris x, hlen, fun y hy => ?_, fun y hy => ?_⟩, ?_, ?_⟩
  · cases e
    intro hf
    rcases h4 b hf with h5 | h5
    · exact hbf h5
    · omega
  · cases e
    exact h3.kept b hb hbf
  · rcases (mem_put h.ris x y).1 hy with rfl | ⟨hy, -⟩
    · exact hsz
    · exact h.sz y hy
  · rcases (mem_put h.ris x y).1 hy with rfl | ⟨hy, -⟩
    · exact ⟨hx0, hx1⟩
    · exact h.tm y hy
  · have hle : B ≤ w.heap.size := Nat.le_trans h.le (Nat.le_of_lt h.lt)
    exact (below_grown hg hle (fun j e => by cases e; exact h.nle b rfl)).trans (h3.below hc.le (fun k hk => (hc.foot hk).1))
  · exact (KeptX.of_map hg hmb).trans (KeptX.of_tur hc h3)
end
end Go.Proofs.Ytkplhobiciddoaa
