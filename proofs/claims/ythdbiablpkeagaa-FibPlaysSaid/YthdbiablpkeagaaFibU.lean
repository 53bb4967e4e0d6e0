/- How slices of small numbers that came in are opened. -/
import Derived.Test.YthdbiablpkeagaaFibK
import Derived.Deep.Slices
import Derived.SizedLaws
namespace Go.Proofs.Ythdbiablpkeagaa
open Go.ChangeShapes Go.WideShapes Go.ChangeAt Go.RowKit
section
variable {α : Type}
/-- The slice at A of n one-cell elements is the list l. -/
def Sl1 (mk : α → Value) (Pr : α → Prop) (W : World) (A : Option Addr) (n : Nat) (l : List α) : Prop :=
  n = l.length ∧ (l = [] ∨ ∃ b off, A = some ⟨b, off, none⟩ ∧ b < W.heap.size ∧ ∀ k, (h : k < l.length) → W.cell? ⟨b, off + k, none⟩ = some (mk l[k])) ∧ ∀ x ∈ l, Pr x
theorem list1_of {P : Nat → α → Prop} : ∀ n, (∀ i, i < n → ∃ v, P i v) → ∃ l : List α, l.length = n ∧ ∀ i, (h : i < l.length) → P i l[i]
  | 0, _ => ⟨[], rfl, fun i h => by simp at h⟩
  | n + 1, h => by
    obtain ⟨l, hl, hp⟩ := list1_of n (fun i hi => h i (by omega))
    obtain ⟨v, hv⟩ := h n (by omega)
    refine ⟨l ++ [v], by simp [hl], fun i hi => ?_⟩
    by_cases e : i < l.length
    · rw [List.getElem_append_left e]; exact hp i e
    · have : i = n := by simp at hi; omega
      subst this
      rw [List.getElem_append_right (by omega)]
      simpa [hl] using hv
set_option maxRecDepth 100000 in
theorem trod_sl1 {mk : α → Value} {Pr : α → Prop} {T E : TypeId} (hT : Try.prog.underlying T = some (.slice E)) (hE : Try.prog.cellsOf E = 1)
    {H : Type} {enc : TypeId × Value → H} {W : World} {b0 fuel : Nat} {sp : Nat → Bool} {held : Bool} {A : Option Addr} {n cap : Nat} {x : DataW H × List MemPlace}
    (hel1 : ∀ (f : Nat) (c : Value) (y : DataW H × List MemPlace), DataW.trod enc Try.prog W b0 sp held f E [c] = some y → ∃ a, c = mk a ∧ Pr a)
    (hf : DataW.trod enc Try.prog W b0 sp held fuel T [.slice A n cap] = some x) : ∃ l : List α, Sl1 mk Pr W A n l ∧ n ≤ cap ∧ cap ≤ maxLen := by
  rcases Go.Deep.open_slice hT hf with ⟨hcs, _⟩ | ⟨a, len, cap', m, nn, D, Pl, hcs, _, hle, hmx, hmm, hx, hel⟩
  · simp at hcs
    obtain ⟨rfl, rfl, rfl⟩ := hcs
    exact ⟨[], ⟨rfl, .inl rfl, (fun _ h => nomatch h)⟩, by omega, by unfold maxLen; omega⟩
  · simp at hcs
    obtain ⟨rfl, rfl, rfl⟩ := hcs
    have hnm : n ≤ m := by rw [hmm]; split <;> omega
    have key : ∀ i, i < n → ∃ v : α, Pr v ∧ W.cell? (a.add i) = some (mk v) := by
      intro i hi
      obtain ⟨cs', h1, h2⟩ := hel i (by omega)
      rw [hE, Nat.mul_one] at h1
      obtain ⟨_, h4, h3⟩ := World.cells?_some h1
      match cs', h4 with
      | [c], _ =>
        obtain ⟨v, rfl, hv⟩ := hel1 _ _ _ h2
        have q0 := h3 0 (by omega)
        have e0 : (a.add i).add 0 = a.add i := by simp [Addr.add]
        rw [e0] at q0
        exact ⟨v, hv, by simpa using q0⟩
    obtain ⟨l, hl, hp⟩ := list1_of n key
    obtain ⟨b, off, spot⟩ := a
    refine ⟨l, ⟨hl.symm, ?_, fun x hx => ?_⟩, hle, hmx⟩
    · by_cases h0 : l = []
      · exact .inl h0
      · have hpos : 0 < l.length := List.length_pos_iff.2 h0
        have hs : spot = none := by
          have := World.cell?_spot (hp 0 hpos).2
          simpa [Addr.add] using this
        subst hs
        refine .inr ⟨b, off, rfl, ?_, ?_⟩
        · have := World.block_lt_of_cell? W _ (hp 0 hpos).2
          simpa [Addr.add] using this
        · intro k hk
          obtain ⟨pz, p0⟩ := hp k hk
          have hadd : ∀ (o i : Nat), (⟨b, o, none⟩ : Addr).add i = ⟨b, o + i, none⟩ := by intro o i; unfold Addr.add; split <;> simp_all
          rw [hadd] at p0
          exact p0
    · obtain ⟨i, hi, rfl⟩ := List.mem_iff_getElem.1 hx
      exact (hp i hi).1
end
theorem cellsU16 : Try.prog.cellsOf 46 = 1 := by kernel_rfl
def okH (x : Int) : Prop := 0 ≤ x ∧ x ≤ 65535
def mkH (n : Int) : Value := .int .u16 n
section
variable {H : Type} {enc : TypeId × Value → H} {W : World} {base b0 : Nat} {r : Reach} {sp : Nat → Bool} {held : Bool} {v : Value} {d : DataW H} {p : List MemPlace}
set_option maxRecDepth 100000 in
theorem open_u16s (hv : Value.okWide Try.prog W r base 45 v) (h : DataW.Trod enc Try.prog W b0 sp held 45 v d p) :
    ∃ (A : Option Addr) (n cap : Nat) (l : List Int), v = .slice A n cap ∧ Sl1 mkH okH W A n l ∧ n ≤ cap ∧ cap ≤ maxLen := by
  obtain ⟨A, n, cap, rfl⟩ := okWide_slice Try.underlying45 hv
  obtain ⟨fuel, hf⟩ := h
  obtain ⟨l, hl⟩ := trod_sl1 (mk := mkH) (Pr := okH) Try.underlying45 cellsU16 (fun f c y hy => by
    obtain ⟨s, e0, _, hs⟩ := DataW.trod_int Try.underlying46 hy
    simp at e0
    simp only [Lit.wf, Bool.and_eq_true, decide_eq_true_eq] at hs
    exact ⟨s, e0, hs.1, hs.2⟩) (A := A) (n := n) (cap := cap) hf
  exact ⟨A, n, cap, l, rfl, hl⟩
set_option maxRecDepth 20000 in
theorem Sl1.one {w wr : World} {A : Option Addr} {n k : Nat} {l : List Int} (h : Sl1 mkH okH w A n l) (hb : Below w.heap.size w wr) (hk : k < n) :
    ∃ t b off, 0 ≤ t ∧ t ≤ 65535 ∧ A = some ⟨b, off, none⟩ ∧ wr.cell? ⟨b, off + k, none⟩ = some (.int .u16 t) ∧ b < w.heap.size := by
  obtain ⟨rfl, rfl | ⟨b, off, rfl, hbl, hh⟩, hw⟩ := h
  · simp at hk
  · have h0 := hh k hk
    obtain ⟨h1, h2⟩ := hw _ (List.getElem_mem hk)
    exact ⟨l[k], b, off, h1, h2, rfl, by rw [hb.cell hbl]; exact h0, hbl⟩
end
end Go.Proofs.Ythdbiablpkeagaa
