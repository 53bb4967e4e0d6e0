/- How a slice of keys that came in is opened; Pop as a caller wants it. -/
import Derived.Test.YthdbiablpkeagaaFibO
import Derived.Test.YthdbiablpkeagaaFbT
import Derived.Deep.Slices
namespace Go.Proofs.Ythdbiablpkeagaa
open Go.ChangeShapes Go.WideShapes Go.ChangeAt Go.RowKit
/-- The slice holds the keys. -/
def SlK (w : World) (S : Option Addr) (len : Nat) (l : List K3) : Prop := len = l.length ∧ (∀ k ∈ l, okW k) ∧ (l = [] ∨ ∃ b off, S = some ⟨b, off, none⟩ ∧ b < w.heap.size ∧ ∀ j, (h : j < l.length) → w.cell? ⟨b, off + j * 3, none⟩ = some (.int .u64 l[j].1) ∧ w.cell? ⟨b, off + j * 3 + 1, none⟩ = some (.int .u64 l[j].2.1) ∧ w.cell? ⟨b, off + j * 3 + 2, none⟩ = some (.int .i64 l[j].2.2))
theorem SlK.below {w w' : World} {S : Option Addr} {len : Nat} {l : List K3} (h : SlK w S len l) (hw : Below w.heap.size w w') : SlK w' S len l := by
  obtain ⟨h0, hk, h | ⟨b, off, e, hb, h⟩⟩ := h
  · exact ⟨h0, hk, .inl h⟩
  · refine ⟨h0, hk, .inr ⟨b, off, e, Nat.lt_of_lt_of_le hb hw.size, fun j hj => ?_⟩⟩
    rw [hw.cell hb, hw.cell hb, hw.cell hb]
    exact h j hj
theorem SlK.one {w wr : World} {A : Option Addr} {n k : Nat} {l : List K3} (h : SlK w A n l) (hb : Below w.heap.size w wr) (hk : k < n) :
    ∃ x b off, x ∈ l ∧ okW x ∧ l[k]? = some x ∧ A = some ⟨b, off, none⟩ ∧ wr.cell? ⟨b, off + k * 3, none⟩ = some (.int .u64 x.1) ∧ wr.cell? ⟨b, off + k * 3 + 1, none⟩ = some (.int .u64 x.2.1) ∧ wr.cell? ⟨b, off + k * 3 + 2, none⟩ = some (.int .i64 x.2.2) ∧ b < w.heap.size := by
  obtain ⟨rfl, hw, rfl | ⟨b, off, rfl, hbl, hh⟩⟩ := h
  · simp at hk
  · obtain ⟨h0, h1, h2⟩ := hh k hk
    exact ⟨l[k], b, off, List.getElem_mem hk, hw _ (List.getElem_mem hk), List.getElem?_eq_getElem hk, rfl, by rw [hb.cell hbl]; exact h0, by rw [hb.cell hbl]; exact h1, by rw [hb.cell hbl]; exact h2, hbl⟩
theorem listK_of {P : Nat → K3 → Prop} : ∀ n, (∀ i, i < n → ∃ v, P i v) → ∃ l : List K3, l.length = n ∧ ∀ i, (h : i < l.length) → P i l[i]
  | 0, _ => ⟨[], rfl, fun i h => by simp at h⟩
  | n + 1, h => by
    obtain ⟨l, hl, hp⟩ := listK_of n (fun i hi => h i (by omega))
    obtain ⟨v, hv⟩ := h n (by omega)
    refine ⟨l ++ [v], by simp [hl], fun i hi => ?_⟩
    by_cases e : i < l.length
    · rw [List.getElem_append_left e]; exact hp i e
    · have : i = n := by simp at hi; omega
      subst this
      rw [List.getElem_append_right (by omega)]
      simpa [hl] using hv
set_option maxRecDepth 100000 in
/-- A slice of keys that came in, opened. -/
theorem open_keys {H : Type} {enc : TypeId × Value → H} {W : World} {base b0 : Nat} {r : Reach} {sp : Nat → Bool} {held : Bool} {v : Value} {d : DataW H} {p : List MemPlace}
    (hv : Value.okWide Try.prog W r base 22 v) (h : DataW.Trod enc Try.prog W b0 sp held 22 v d p) :
    ∃ (A : Option Addr) (n cap : Nat) (l : List K3), v = .slice A n cap ∧ SlK W A n l ∧ n ≤ cap ∧ cap ≤ maxLen := by
  obtain ⟨A, n, cap, rfl⟩ := okWide_slice Try.underlying22 hv
  obtain ⟨fuel, hf⟩ := h
  rcases Go.Deep.open_slice Try.underlying22 hf with ⟨hcs, _⟩ | ⟨a, len, cap', m, nn, D, Pl, hcs, _, hle, hmx, hmm, hx, hel⟩
  · simp [Value.cells] at hcs
    obtain ⟨rfl, rfl, rfl⟩ := hcs
    exact ⟨none, 0, 0, [], rfl, ⟨rfl, (fun _ h => nomatch h), .inl rfl⟩, by omega, by unfold maxLen; omega⟩
  · simp [Value.cells] at hcs
    obtain ⟨rfl, rfl, rfl⟩ := hcs
    have hnm : n ≤ m := by rw [hmm]; split <;> omega
    have key : ∀ i, i < n → ∃ v : K3, okW v ∧ W.cell? (a.add (i * 3)) = some (.int .u64 v.1) ∧ W.cell? ((a.add (i * 3)).add 1) = some (.int .u64 v.2.1) ∧ W.cell? ((a.add (i * 3)).add 2) = some (.int .i64 v.2.2) := by
      intro i hi
      obtain ⟨cs', h1, h2⟩ := hel i (by omega)
      rw [cellsK] at h1
      obtain ⟨k0, k1, k2, rfl, q1, q2⟩ := trod_key h2
      obtain ⟨_, _, h3⟩ := World.cells?_some h1
      have p0 := h3 0 (by omega)
      have p1 := h3 1 (by omega)
      have p2 := h3 2 (by omega)
      simp at p0 p1 p2
      refine ⟨(k0, k1, k2), ⟨q1.1, q1.2, q2.1, q2.2⟩, ?_, p1, p2⟩
      have e0 : (a.add (i * 3)).add 0 = a.add (i * 3) := by simp [Addr.add]
      rw [e0] at p0
      exact p0
    obtain ⟨l, hl, hp⟩ := listK_of n key
    obtain ⟨b, off, spot⟩ := a
    refine ⟨_, n, cap, l, rfl, ⟨hl.symm, fun x hx => ?_, ?_⟩, hle, hmx⟩
    · obtain ⟨i, hi, rfl⟩ := List.mem_iff_getElem.1 hx
      exact (hp i hi).1
    · by_cases h0 : l = []
      · exact .inl h0
      · have hpos : 0 < l.length := List.length_pos_iff.2 h0
        have hs : spot = none := by
          have := World.cell?_spot (hp 0 hpos).2.1
          simpa [Addr.add] using this
        subst hs
        refine .inr ⟨b, off, rfl, ?_, ?_⟩
        · have := World.block_lt_of_cell? W _ (hp 0 hpos).2.1
          simpa [Addr.add] using this
        · intro k hk
          obtain ⟨-, p0, p1, p2⟩ := hp k hk
          have hadd : ∀ (o i : Nat), (⟨b, o, none⟩ : Addr).add i = ⟨b, o + i, none⟩ := by intro o i; unfold Addr.add; split <;> simp_all
          simp only [hadd] at p0 p1 p2
          exact ⟨p0, p1, p2⟩
variable {B H g cap : Nat} {w w' : World} {s s' : Hp} {least n : Int}
theorem Tur.gv {m : Nat} (h : Tur (FootG H g) w w') : Tur (FootV H (.slice (some ⟨g, 0, none⟩) m cap)) w w' := h.mono fun _ hk => .inl (foot_gv.1 hk)
theorem pop_v {v : Value} (h : HeapV B w H v s least n) (hg : Good s least n) (hn : 0 < n) : ∃ x, s.th x = true ∧ x < s.m ∧ okK (s.key x) ∧ (∀ z, s.th z = true → z = x ∨ s.lt x z) ∧ ∀ W, Below w.heap.size w W →
    Calls Try.prog 11 #[.pointer (some ⟨H, 0, none⟩)] W fun e w' => e = .returned (.tuple #[.int .i64 x, keyV (s.key x), .int .i64 0]) ∧ ∃ s' least', HeapV B w' H v s' least' (n - 1) ∧ Good s' least' (n - 1) ∧ SameK (s.clear x) s' ∧ Tur (FootV H v) W w' := by
  rcases hg.min with ⟨-, hh, -⟩ | ⟨x, hl, hx, tx, -, hmin⟩
  · omega
  · obtain ⟨g, cap, rfl, hG⟩ := h.open_ (by omega)
    have hok : okK (s.key x) := by obtain ⟨-, -, kids, L, hF, -⟩ := hg; exact hF.okk x tx
    refine ⟨x, tx, hx, hok, hmin, fun W hb => (pop_some (hG.below hb) hg hl hn).mono ?_⟩
    rintro e w' ⟨rfl, s', least', h2, g2, sk, t2⟩
    have em : s'.m = s.m := sk.1
    have h3 := h2.toV
    rw [em] at h3
    exact ⟨rfl, s', least', h3, g2, sk, t2.gv⟩
end Go.Proofs.Ythdbiablpkeagaa
