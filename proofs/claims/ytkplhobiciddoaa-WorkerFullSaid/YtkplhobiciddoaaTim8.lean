/- Contract of chapter 10's Set: an alarm of that name is there once, at the tick; at the limit a new one is refused. -/
import Derived.Test.YtkplhobiciddoaaTim7
import Derived.WalkSpells
import Derived.Carry
namespace Go.Proofs.Ytkplhobiciddoaa
open Go.RowKit Go.Maps Go.WideShapes
/-- The clock at block c: its row v, its map m, its alarms l, a heap whose names are apart. -/
structure Clk (B : Nat) (w : World) (c : Nat) (zn : Value) (v : Value) (m : Option Nat) (l : List Al) : Prop where
  st : ∃ I, ClkS B w c zn v m l l.length I ∧ Idx l I
  sz : ∀ x ∈ l, x.1.size ≤ maxLen
  le : B ≤ w.heap.size
  hp : Hp l l.length
  len : l.length ≤ 1024
section
variable {B c : Nat} {w w' : World} {v : Value} {m : Option Nat} {l : List Al}
theorem Clk.good {zn : Value} {b : Nat} (h : Clk B w c zn v (some b) l) : Good B w c zn v b l l.length := by
  obtain ⟨I, h1, h2⟩ := h.st
  exact ⟨I, h1, h2, h.sz, h.le⟩
theorem Clk.of_good {zn : Value} {b n : Nat} (h : Good B w c zn v b l n) (hn : n = l.length) (hp : Hp l l.length) (hl : l.length ≤ 1024) : Clk B w c zn v (some b) l := by
  subst hn
  obtain ⟨I, h1, h2, h3, h4⟩ := h
  exact ⟨⟨I, h1, h2⟩, h3, h4, hp, hl⟩
theorem Clk.below {zn : Value} (h : Clk B w c zn v m l) (hb : Below w.heap.size w w') : Clk B w' c zn v m l := by
  obtain ⟨I, h1, h2⟩ := h.st
  exact ⟨⟨I, h1.below hb, h2⟩, h.sz, Nat.le_trans h.le hb.size, h.hp, h.len⟩
theorem Clk.lt {zn : Value} (h : Clk B w c zn v m l) : c < w.heap.size := by
  obtain ⟨I, h1, -⟩ := h.st
  exact h1.lt
theorem Clk.foot {zn : Value} (h : Clk B w c zn v m l) {k : Nat} (hk : Foot c v m k) : B ≤ k ∧ k < w.heap.size := by
  obtain ⟨I, h1, -⟩ := h.st
  exact h1.foot hk
theorem Clk.at {zn : Value} (h : Clk B w c zn v m l) (hw : w.heap.size ≤ w'.heap.size) (e : ∀ k, Foot c v m k → w'.heap[k]? = w.heap[k]?) : Clk B w' c zn v m l := by
  obtain ⟨I, h1, h2⟩ := h.st
  exact ⟨⟨I, h1.at e, h2⟩, h.sz, Nat.le_trans h.le hw, h.hp, h.len⟩
/-- It stands where a call turns other blocks. -/
theorem Clk.tur {zn : Value} {F : Nat → Prop} (h : Clk B w c zn v m l) (t : Tur F w w') (hd : ∀ k, Foot c v m k → ¬ F k) : Clk B w' c zn v m l :=
  h.at t.size (fun k hk => t.kept k (h.foot hk).2 (hd k hk))
theorem Clk.inj {zn : Value} (h : Clk B w c zn v m l) {i j : Nat} (hi : i < l.length) (hj : j < l.length) (e : (el l i).1 = (el l j).1) : i = j := by
  obtain ⟨I, -, h2⟩ := h.st
  exact h2.inj hi hj (by rw [e])
end
/-- What a call of the clock leaves. -/
def CPost (B : Nat) (w w' : World) (c : Nat) (zn : Value) (v : Value) (m : Option Nat) (Q : List Al → Prop) : Prop :=
  ∃ v' m' l', Clk B w' c zn v' m' l' ∧ Q l' ∧ Tur (Foot c v m) w w' ∧ ∀ k, Foot c v' m' k → Foot c v m k ∨ w.heap.size ≤ k
theorem CPost.same {zn : Value} {B c : Nat} {w w' : World} {v : Value} {m : Option Nat} {l : List Al} {Q : List Al → Prop} (h : Clk B w c zn v m l) (hb : Below w.heap.size w w') (hQ : Q l) : CPost B w w' c zn v m Q :=
  ⟨v, m, l, h.below hb, hQ, Tur.of_below hb, fun _ h => .inl h⟩
theorem el_mem {l : List Al} {i : Nat} (h : i < l.length) : el l i ∈ l := by rw [el_eq h]; exact List.getElem_mem _
theorem mem_el {l : List Al} {x : Al} (h : x ∈ l) : ∃ i, i < l.length ∧ el l i = x := by
  obtain ⟨i, hi, e⟩ := List.mem_iff_getElem.1 h
  exact ⟨i, hi, by rw [el_eq hi, e]⟩
def hasN (l : List Al) (s : ByteArray) : Bool := l.any (fun x => decide (x.1 = s))
theorem hasN_iff (l : List Al) (s : ByteArray) : hasN l s = true ↔ ∃ i, i < l.length ∧ (el l i).1 = s := by
  unfold hasN
  rw [List.any_eq_true]
  constructor
  · rintro ⟨x, hx, e⟩
    obtain ⟨i, hi, rfl⟩ := mem_el hx
    exact ⟨i, hi, by simpa using e⟩
  · rintro ⟨i, hi, e⟩
    exact ⟨_, el_mem hi, by simpa using e⟩
def setE (l : List Al) (s : ByteArray) : Int := if hasN l s = false ∧ 1024 ≤ l.length then 6 else 0
/-- What Set makes of the alarms. -/
def SetR (l : List Al) (s : ByteArray) (t : Int) (l' : List Al) : Prop :=
  if hasN l s = false ∧ 1024 ≤ l.length then l' = l
  else l'.length = (if hasN l s = true then l.length else l.length + 1) ∧ ∀ x, x ∈ l' ↔ x = (s, t) ∨ (x ∈ l ∧ x.1 ≠ s)
theorem zero_int' (w : World) : (zeroValue 3).run Try.prog w = .ok (.int .i64 0) w := zero_int w
/-- A look-up in the clock's map. -/
theorem MapI.look_ok {w : World} {m : Option Nat} {n : Nat} {I : List UInt8 → Option Int} (h : MapI w m n I) {s : ByteArray} (hs : s.size ≤ maxLen) :
    (Instr.lookup 59 (.map m) (.string s) true).run Try.prog w = .ok (.tuple #[.int .i64 ((I s.data.toList).getD 0), .bool (I s.data.toList).isSome]) w := by
  cases m with
  | none =>
    obtain ⟨rfl, rfl⟩ := h
    exact Maps.look_nil true (Maps.string_keyed Try.underlying9) Try.underlying59 (zero_int w) (WideMaps.keyOf_string_mk Try.underlying9 hs)
  | some b => exact OwnsM.look_ok (mk := mkI) h mkI_inj Try.underlying9 Try.underlying59 (zero_int w) hs
theorem MapI.look {w : World} {m : Option Nat} {n : Nat} {I : List UInt8 → Option Int} (h : MapI w m n I) {s : ByteArray} (hs : s.size ≤ maxLen) :
    (Instr.lookup 59 (.map m) (.string s) false).run Try.prog w = .ok (.int .i64 ((I s.data.toList).getD 0)) w := by
  cases m with
  | none =>
    obtain ⟨rfl, rfl⟩ := h
    exact Maps.look_nil false (Maps.string_keyed Try.underlying9) Try.underlying59 (zero_int w) (WideMaps.keyOf_string_mk Try.underlying9 hs)
  | some b => exact OwnsM.look (mk := mkI) h mkI_inj Try.underlying9 Try.underlying59 (zero_int w) hs
theorem Idx.has {l : List Al} {I : List UInt8 → Option Int} (h : Idx l I) {s : ByteArray} {i : Nat} (hi : i < l.length) (e : (el l i).1 = s) : I s.data.toList = some (i : Int) := by
  rw [← e]; exact h.at hi
theorem Idx.not {l : List Al} {I : List UInt8 → Option Int} (h : Idx l I) {s : ByteArray} (hn : hasN l s = false) : I s.data.toList = none := by
  cases hk : I s.data.toList with
  | none => rfl
  | some z =>
    obtain ⟨j, hj, hk', -⟩ := (h _ _).1 hk
    have : hasN l s = true := (hasN_iff l s).2 ⟨j, hj, bytes_inj hk'⟩
    rw [hn] at this; cases this
theorem flatT_tick (l : List Al) (t : Int) : ∀ j, (h : j < l.length) → (flatT l).set (j * 2 + 1) (.int .i64 t) = flatT (l.set j ((el l j).1, t)) := by
  induction l with
  | nil => intro j h; simp at h
  | cons v l ih =>
    intro j h
    cases j with
    | zero => simp [flatT, cellsT, el]
    | succ j =>
      have hj : j < l.length := by simpa using h
      have := ih j hj
      simp only [flatT, List.set_cons_succ, el, List.getD_cons_succ]
      unfold el at this
      rw [← this, List.set_append_right _ _ (by simp [cellsT]; omega)]
      congr 2
      simp [cellsT]; omega
theorem ClkS.tick {zn : Value} {B c n g cap k : Nat} {w : World} {m : Option Nat} {l : List Al} {I : List UInt8 → Option Int} {j : Nat} (h : ClkS B w c zn (.slice (some ⟨g, 0, none⟩) k cap) m l n I) (hj : j < l.length) (t : Int) :
    ClkS B (w.setCell ⟨g, j * 2 + 1, none⟩ (.int .i64 t)) c zn (.slice (some ⟨g, 0, none⟩) k cap) m (l.set j ((el l j).1, t)) n I := by
  have hne : g ≠ c := fun e => h.own_ne (by rw [e]; rfl)
  have hmne : ∀ b, m = some b → b ≠ g := fun b hb e => (h.map_ne b hb).2 (by rw [e]; rfl)
  obtain rfl : k = l.length := by
    obtain ⟨A, cap', e⟩ := h.slice
    injection e
  have r1 := h.row.stored (j * 2 + 1) (.int .i64 t)
  refine ⟨h.le, ?_, ?_, h.mle, ?_⟩
  · rw [heap_setCell_other _ ⟨g, _, none⟩ c _ (Ne.symm hne)]; exact h.blk
  · rw [List.length_set, ← flatT_tick l t j hj]
    exact r1.1
  · refine h.map.at (fun b hb => ?_)
    rw [heap_setCell_other _ ⟨g, _, none⟩ b _ (hmne b hb)]
theorem Idx.tick {l : List Al} {I : List UInt8 → Option Int} (h : Idx l I) {j : Nat} (hj : j < l.length) (t : Int) : Idx (l.set j ((el l j).1, t)) I := by
  intro k z
  rw [h]
  have e : ∀ i, (el (l.set j ((el l j).1, t)) i).1 = (el l i).1 := fun i => by
    rw [el_set hj]
    split
    · rename_i e; rw [e]
    · rfl
  constructor
  · rintro ⟨i, hi, hk, hz⟩; exact ⟨i, by simpa using hi, by rw [e]; exact hk, hz⟩
  · rintro ⟨i, hi, hk, hz⟩; exact ⟨i, by simpa using hi, by rw [← e]; exact hk, hz⟩
theorem mem_tick {l : List Al} {I : List UInt8 → Option Int} (h : Idx l I) {j : Nat} (hj : j < l.length) (t : Int) (x : Al) : x ∈ l.set j ((el l j).1, t) ↔ x = ((el l j).1, t) ∨ (x ∈ l ∧ x.1 ≠ (el l j).1) := by
  constructor
  · intro hx
    obtain ⟨i, hi, rfl⟩ := mem_el hx
    rw [List.length_set] at hi
    rw [el_set hj]
    split
    · exact .inl rfl
    · rename_i e
      exact .inr ⟨el_mem hi, fun e2 => e (h.inj hi hj (by rw [e2]))⟩
  · rintro (rfl | ⟨hx, hne⟩)
    · have := el_mem (l := l.set j ((el l j).1, t)) (i := j) (by simpa using hj)
      rwa [el_set hj, if_pos rfl] at this
    · obtain ⟨i, hi, rfl⟩ := mem_el hx
      have := el_mem (l := l.set j ((el l j).1, t)) (i := i) (by simpa using hi)
      rwa [el_set hj, if_neg (fun e => hne (by rw [e]))] at this
set_option maxRecDepth 20000 in
set_option maxHeartbeats 1000000 in
theorem set_old {zn : Value} (B c : Nat) (v : Value) (m : Option Nat) (l : List Al) (s : ByteArray) (t : Int) (i : Nat) (w : World) (h : Clk B w c zn v m l) (hs : s.size ≤ maxLen) (hi : i < l.length) (e : (el l i).1 = s) :
    Calls Try.prog 24 #[.pointer (some ⟨c, 1, none⟩), .string s, .int .i64 t] w fun e w' => e = .returned (.int .i64 0) ∧ CPost B w w' c zn v m (fun l' => l'.length = l.length ∧ ∀ x, x ∈ l' ↔ x = (s, t) ∨ (x ∈ l ∧ x.1 ≠ s)) := by
  obtain ⟨I, h1, h2⟩ := h.st
  have hlook := h1.map.look_ok hs
  rw [h2.has hi e] at hlook
  simp only [Option.getD_some, Option.isSome_some] at hlook
  obtain ⟨c0, c1, cf⟩ := h1.cell
  obtain ⟨g, cap, rfl, hBg, hgc, hgl, hgf, hcell⟩ := h1.cells (by omega)
  obtain ⟨ci0, ci1⟩ := hcell i hi
  have hlt := h1.lt
  have hii : (i : Int) < l.length := by omega
  obtain ⟨b, rfl⟩ : ∃ b, m = some b := by
    cases m with
    | none =>
      obtain ⟨-, hI⟩ : _ ∧ I = noA := h1.map
      have := h2.has hi e
      rw [hI] at this; cases this
    | some b => exact ⟨b, rfl⟩
  have HH := hid h
  have T1 := h1.tick hi t
  have HG1 : Hid (Good B (w.setCell ⟨g, i * 2 + 1, none⟩ (.int .i64 t)) c zn (.slice (some ⟨g, 0, none⟩) l.length cap) b (l.set i ((el l i).1, t)) l.length) :=
    ⟨I, T1, h2.tick hi t, fun x hx => by
      rcases (mem_tick h2 hi t x).1 hx with rfl | hx
      · exact (h.sz (el l i) (el_mem hi) : (el l i).1.size ≤ maxLen)
      · exact h.sz _ hx.1, by simpa using h.le⟩
  have HD : Hid (DnI (l.set i ((el l i).1, t)) (l.set i ((el l i).1, t)).length i) := by
    rw [List.length_set]
    exact h.hp.changed (fun k hk hne => by rw [el_set hi, if_neg hne]) hi
  have HMEM : Hid (∀ x, x ∈ l.set i ((el l i).1, t) ↔ x = (s, t) ∨ (x ∈ l ∧ x.1 ≠ s)) := by
    intro x
    rw [mem_tick h2 hi t, e]
  have HI : Hid (i < l.length) := hi
  clear h h1 h2 hs e hcell T1
  go_enter Try.func24, Try.ntmps24
  go_wp2_with fail
  refine (hfix_g B c l.length b _ (l.set i ((el l i).1, t)) i _ HG1.out (by have := HH.out.len; omega) (by rw [List.length_set]; have := HH.out.len; omega) (by rw [List.length_set]; exact HI.out)).mono ?_
  rintro e w2 ⟨rfl, h2⟩
  have H2 := hid h2
  clear h2
  go_wp2
  go_ret
  obtain ⟨v2, g2, t2, f2⟩ := H2.out
  obtain ⟨hp, pm⟩ := fixL_hp (by rw [List.length_set]; exact HI.out) HD.out
  have hl : (fixL (l.set i ((el l i).1, t)) i).length = l.length := by rw [pm.length_eq, List.length_set]
  refine ⟨rfl, v2, some b, _, Clk.of_good g2 hl.symm (by rw [hl]; rw [List.length_set] at hp; exact hp) (by rw [hl]; exact HH.out.len), ⟨hl, fun x => by rw [pm.mem_iff]; exact HMEM.out x⟩, ?_, fun k hk => ?_⟩
  · exact (Tur.set _ (.inl (.inr (.inl rfl)))).then t2
  · rcases f2 k hk with h | h
    · exact .inl h
    · right; simpa using h
set_option maxRecDepth 20000 in
set_option maxHeartbeats 1000000 in
theorem set_full {zn : Value} (B c : Nat) (v : Value) (m : Option Nat) (l : List Al) (s : ByteArray) (t : Int) (w : World) (h : Clk B w c zn v m l) (hs : s.size ≤ maxLen) (hn : hasN l s = false) (hf : 1024 ≤ l.length) :
    Calls Try.prog 24 #[.pointer (some ⟨c, 1, none⟩), .string s, .int .i64 t] w fun e w' => e = .returned (.int .i64 6) ∧ Below w.heap.size w w' := by
  obtain ⟨I, h1, h2⟩ := h.st
  have hlook := h1.map.look_ok hs
  rw [h2.not hn] at hlook
  simp only [Option.getD_none, Option.isSome_none] at hlook
  obtain ⟨c0, c1, cf⟩ := h1.cell
  obtain ⟨A, cap, rfl⟩ := h1.slice
  have hff : (1024 : Int) ≤ (l.length : Int) := by omega
  have hlt := h1.lt
  clear h h1 h2 hs hn hf
  go_enter Try.func24, Try.ntmps24
  go_wp2
  go_ret
  exact ⟨rfl, Below.refl _ _⟩
/-- The push at the end of Set. -/
theorem push_c {zn : Value} {B c b : Nat} {v : Value} {l : List Al} {s : ByteArray} {t : Int} {w w' : World} (hp : Hp l l.length) (hl : l.length < 1024) (hn : hasN l s = false) (h : Post B w w' c zn v b (pushL l (s, t)) (l.length + 1)) :
    CPost B w w' c zn v (some b) (fun l' => l'.length = l.length + 1 ∧ ∀ x, x ∈ l' ↔ x = (s, t) ∨ (x ∈ l ∧ x.1 ≠ s)) := by
  obtain ⟨v2, g2, t2, f2⟩ := h
  obtain ⟨hp2, pm⟩ := pushL_hp (x := (s, t)) hp
  have hlen : (pushL l (s, t)).length = l.length + 1 := by rw [pm.length_eq]; simp
  refine ⟨v2, some b, _, Clk.of_good g2 hlen.symm (by rw [hlen]; exact hp2) (by omega), ⟨hlen, fun x => ?_⟩, t2, f2⟩
  rw [pm.mem_iff, List.mem_append, List.mem_singleton]
  constructor
  · rintro (hx | rfl)
    · refine .inr ⟨hx, fun e => ?_⟩
      obtain ⟨i, hi, rfl⟩ := mem_el hx
      have := (hasN_iff l s).2 ⟨i, hi, e⟩
      rw [hn] at this; cases this
    · exact .inl rfl
  · rintro (rfl | ⟨hx, -⟩)
    · exact .inr rfl
    · exact .inl hx
set_option maxRecDepth 20000 in
set_option maxHeartbeats 1000000 in
theorem set_new1 {zn : Value} (B c b : Nat) (v : Value) (l : List Al) (s : ByteArray) (t : Int) (w : World) (h : Clk B w c zn v (some b) l) (hs : s.size ≤ maxLen) (hn : hasN l s = false) (hf : l.length < 1024) :
    Calls Try.prog 24 #[.pointer (some ⟨c, 1, none⟩), .string s, .int .i64 t] w fun e w' => e = .returned (.int .i64 0) ∧ CPost B w w' c zn v (some b) (fun l' => l'.length = l.length + 1 ∧ ∀ x, x ∈ l' ↔ x = (s, t) ∨ (x ∈ l ∧ x.1 ≠ s)) := by
  obtain ⟨I, h1, h2⟩ := h.st
  have qT : ∀ (w : World) (r : Option Nat), (binOp .eql 59 (.map r) (.map none)).run Try.prog w = .ok (.bool r.isNone) w := fun w r => run_eql_map_nil w _ _ _ r Try.underlying59
  have hlook := h1.map.look_ok hs
  rw [h2.not hn] at hlook
  simp only [Option.getD_none, Option.isSome_none] at hlook
  obtain ⟨c0, c1, cf⟩ := h1.cell
  obtain ⟨A, cap, rfl⟩ := h1.slice
  have hff : ¬ (1024 : Int) ≤ (l.length : Int) := by omega
  have hlt := h1.lt
  have HH := hid h
  have HS := hid hs
  have HN := hid hn
  have HF : Hid (l.length < 1024) := hf
  clear h h1 h2 hs hn hf
  go_enter Try.func24, Try.ntmps24
  go_wp2_with fail
  refine (hpush_g B c l.length b _ l s t _ HH.out.good (by have := HF.out; omega) (by have := HF.out; omega) HS.out (fun j hj e => by have := (hasN_iff l s).2 ⟨j, hj, e⟩; rw [HN.out] at this; cases this)).mono ?_
  rintro e w2 ⟨rfl, h2⟩
  have H2 := hid h2
  clear h2
  go_wp2
  go_ret
  exact ⟨rfl, push_c HH.out.hp HF.out HN.out H2.out⟩
set_option maxRecDepth 20000 in
set_option maxHeartbeats 1000000 in
theorem set_new0 {zn : Value} (B c : Nat) (v : Value) (l : List Al) (s : ByteArray) (t : Int) (w : World) (h : Clk B w c zn v none l) (hs : s.size ≤ maxLen) :
    Calls Try.prog 24 #[.pointer (some ⟨c, 1, none⟩), .string s, .int .i64 t] w fun e w' => e = .returned (.int .i64 0) ∧ l = [] ∧ CPost B w w' c zn v none (fun l' => l'.length = l.length + 1 ∧ ∀ x, x ∈ l' ↔ x = (s, t) ∨ (x ∈ l ∧ x.1 ≠ s)) := by
  obtain ⟨I, h1, h2⟩ := h.st
  have qT : ∀ (w : World) (r : Option Nat), (binOp .eql 59 (.map r) (.map none)).run Try.prog w = .ok (.bool r.isNone) w := fun w r => run_eql_map_nil w _ _ _ r Try.underlying59
  have hlook := h1.map.look_ok hs
  obtain ⟨hn0, rfl⟩ : l.length = 0 ∧ I = noA := h1.map
  obtain rfl : l = [] := List.length_eq_zero_iff.1 hn0
  simp only [noA, Option.getD_none, Option.isSome_none] at hlook
  obtain ⟨c0, c1, cf⟩ := h1.cell
  obtain ⟨A, cap, rfl⟩ := h1.slice
  have hlt := h1.lt
  have hmk : ∀ w', (Instr.makeMap 59 none).run Try.prog w' = .ok (.map (some w'.heap.size)) (w'.alloc (.map #[] 0)) := fun w' => run_makeMap _ w'
  have HG : Hid (Good B ((w.setCell ⟨c, 2, none⟩ (.map (some w.heap.size))).alloc (.map #[] 0)) c zn (.slice A ([] : List Al).length cap) w.heap.size [] 0) := by
    have hne : w.heap.size ≠ c := by omega
    have he : ∀ k, k < w.heap.size → k ≠ c → ((w.setCell ⟨c, 2, none⟩ (.map (some w.heap.size))).alloc (.map #[] 0)).heap[k]? = w.heap[k]? := fun k hk hc => by
      rw [Below.heap_alloc _ _ _ (by simpa using hk)]; exact heap_setCell_other _ ⟨c, 2, none⟩ k _ hc
    refine ⟨noA, ⟨h1.le, alloc_at_lt (heap_setCell_same _ _ _ _ _ _ h1.blk) _, ?_, fun b e => by cases e; exact h.le, ?_⟩, h2, h.sz, by simp; have := h.le; omega⟩
    · refine ownsRow_at h1.row (fun g hg => he g (h1.row.lt g hg).2 (fun e => h1.own_ne (by rw [← e]; exact hg)))
    · have := OwnsM.made (w.setCell ⟨c, 2, none⟩ (.map (some w.heap.size))) Try.prog 9 mkI
      show OwnsM _ Try.prog 9 mkI _ 0 noA
      simpa using this
  have HS := hid hs
  have HT : Hid (Tur (Foot c (.slice A ([] : List Al).length cap) none) w ((w.setCell ⟨c, 2, none⟩ (.map (some w.heap.size))).alloc (.map #[] 0))) := (Tur.set _ (.inl (.inl rfl))).then (Tur.of_below (below_alloc (Below.refl _ _) _))
  clear h h1 h2 hs
  simp only [List.length_nil] at HG HT c0 ⊢
  go_enter Try.func24, Try.ntmps24
  go_wp2_with fail
  refine (hpush_g B c 0 w.heap.size _ [] s t _ HG.out (by omega) (by simp) HS.out (fun j hj => by simp at hj)).mono ?_
  rintro e w2 ⟨rfl, h2⟩
  have H2 := hid h2
  clear h2
  go_wp2
  go_ret
  refine ⟨rfl, by first | trivial | rfl, ?_⟩
  obtain ⟨v', m', l', q1, q2, q3, q4⟩ := push_c (l := []) (fun k _ hk => by simp at hk) (by simp) rfl H2.out
  refine ⟨v', m', l', q1, q2, HT.out.trans q3 ?_, fun k hk => ?_⟩
  · rintro k (h | h | h)
    · exact .inl (.inl h)
    · exact .inl (.inr (.inl h))
    · cases h; exact .inr (Nat.le_refl _)
  · rcases q4 k hk with (h | h | h) | h
    · exact .inl (.inl h)
    · exact .inl (.inr (.inl h))
    · cases h; exact .inr (Nat.le_refl _)
    · right; simp at h; omega
/-- Set, at every name. -/
theorem set_any {zn : Value} (B c : Nat) (v : Value) (m : Option Nat) (l : List Al) (s : ByteArray) (t : Int) (w : World) (h : Clk B w c zn v m l) (hs : s.size ≤ maxLen) :
    Calls Try.prog 24 #[.pointer (some ⟨c, 1, none⟩), .string s, .int .i64 t] w fun e w' => e = .returned (.int .i64 (setE l s)) ∧ CPost B w w' c zn v m (SetR l s t) := by
  unfold setE SetR
  cases hh : hasN l s with
  | true =>
    obtain ⟨i, hi, e⟩ := (hasN_iff l s).1 hh
    rw [if_neg (by simp)]
    refine (set_old B c v m l s t i w h hs hi e).mono ?_
    rintro e w' ⟨rfl, v', m', l', q1, q2, q3⟩
    exact ⟨rfl, v', m', l', q1, by simpa using q2, q3⟩
  | false =>
    rcases Nat.lt_or_ge l.length 1024 with hl | hl
    · rw [if_neg (fun h => absurd h.2 (by omega))]
      cases m with
      | some b =>
        refine (set_new1 B c b v l s t w h hs hh hl).mono ?_
        rintro e w' ⟨rfl, v', m', l', q1, q2, q3⟩
        exact ⟨rfl, v', m', l', q1, by dsimp only; rw [if_neg (show ¬ (false = false ∧ 1024 ≤ l.length) from fun h => absurd h.2 (by omega))]; simpa using q2, q3⟩
      | none =>
        refine (set_new0 B c v l s t w h hs).mono ?_
        rintro e w' ⟨rfl, -, v', m', l', q1, q2, q3⟩
        exact ⟨rfl, v', m', l', q1, by dsimp only; rw [if_neg (show ¬ (false = false ∧ 1024 ≤ l.length) from fun h => absurd h.2 (by omega))]; simpa using q2, q3⟩
    · rw [if_pos ⟨rfl, hl⟩]
      refine (set_full B c v m l s t w h hs hh hl).mono ?_
      rintro e w' ⟨rfl, hb⟩
      exact ⟨rfl, CPost.same h hb (by rw [if_pos ⟨rfl, hl⟩])⟩
end Go.Proofs.Ytkplhobiciddoaa
