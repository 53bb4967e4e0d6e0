/- How what came in is opened: strings, numbers, vectors, slices of records. -/
import Derived.Test.YtingeijodooocaaRows
import Derived.Test.YtingeijodooocaaProg
import Derived.WalkKit
import Derived.ProofKit
import Derived.OpenShut
import Derived.ChangeSame
import Derived.Deep.Slices
namespace Go.Proofs.Ytingeijodooocaa
open Go.ChangeShapes Go.WideShapes Go.ChangeAt Go.RowKit
theorem Try.own : ownKnob Try.prog.godebug = none := by kernel_rfl
theorem Try.laidOut : laidOutB Try.prog = true := by kernel_rfl
section
variable {α : Type}
/-- The slice at A of n records is the list l. -/
def SlR (z : Nat) (f : α → Nat → Value) (Pr : World → α → Prop) (W : World) (A : Option Addr) (n : Nat) (l : List α) : Prop :=
  n = l.length ∧ (l = [] ∨ ∃ b off, A = some ⟨b, off, none⟩ ∧ b < W.heap.size ∧ ∀ i x, l[i]? = some x → ∀ c, c < z → W.cell? ⟨b, off + i * z + c, none⟩ = some (f x c)) ∧ ∀ x ∈ l, Pr W x
theorem listR_of {P : Nat → α → Prop} : ∀ n, (∀ i, i < n → ∃ v, P i v) → ∃ l : List α, l.length = n ∧ ∀ i x, l[i]? = some x → P i x
  | 0, _ => ⟨[], rfl, fun i x h => by simp at h⟩
  | n + 1, h => by
    obtain ⟨l, hl, hp⟩ := listR_of n (fun i hi => h i (by omega))
    obtain ⟨v, hv⟩ := h n (by omega)
    refine ⟨l ++ [v], by simp [hl], fun i x hi => ?_⟩
    by_cases e : i < l.length
    · rw [List.getElem?_append_left e] at hi; exact hp i x hi
    · have hi2 : i < (l ++ [v]).length := (List.getElem?_eq_some_iff.1 hi).1
      have : i = n := by simp at hi2; omega
      subst this
      rw [List.getElem?_append_right (by omega), hl, Nat.sub_self] at hi
      simp at hi
      subst hi
      exact hv
set_option maxRecDepth 100000 in
theorem trod_slz {z : Nat} (hz : 0 < z) {f : α → Nat → Value} {Pr : α → Prop} {T E : TypeId} (hT : Try.prog.underlying T = some (.slice E)) (hE : Try.prog.cellsOf E = z)
    {H : Type} {enc : TypeId × Value → H} {W : World} {b0 fuel : Nat} {sp : Nat → Bool} {held : Bool} {A : Option Addr} {n cap : Nat} {x : DataW H × List MemPlace}
    (hel1 : ∀ (k : Nat) (cs : List Value) (y : DataW H × List MemPlace), DataW.trod enc Try.prog W b0 sp held k E cs = some y → ∃ a, cs = (List.range z).map (f a) ∧ Pr a)
    (hf : DataW.trod enc Try.prog W b0 sp held fuel T [.slice A n cap] = some x) : ∃ l : List α, SlR z f (fun _ => Pr) W A n l ∧ n ≤ cap ∧ cap ≤ maxLen := by
  rcases Go.Deep.open_slice hT hf with ⟨hcs, _⟩ | ⟨a, len, cap', m, nn, D, Pl, hcs, _, hle, hmx, hmm, hx, hel⟩
  · simp at hcs
    obtain ⟨rfl, rfl, rfl⟩ := hcs
    exact ⟨[], ⟨rfl, .inl rfl, (fun _ h => nomatch h)⟩, by omega, by unfold maxLen; omega⟩
  · simp at hcs
    obtain ⟨rfl, rfl, rfl⟩ := hcs
    have hnm : n ≤ m := by rw [hmm]; split <;> omega
    have key : ∀ i, i < n → ∃ v : α, Pr v ∧ ∀ c, c < z → W.cell? ((a.add (i * z)).add c) = some (f v c) := by
      intro i hi
      obtain ⟨cs', h1, h2⟩ := hel i (by omega)
      rw [hE] at h1
      obtain ⟨v, rfl, hv⟩ := hel1 _ _ _ h2
      obtain ⟨_, _, h3⟩ := World.cells?_some h1
      refine ⟨v, hv, fun c hc => ?_⟩
      have q := h3 c hc
      simpa [hc] using q
    obtain ⟨l, hl, hp⟩ := listR_of n key
    obtain ⟨b, off, spot⟩ := a
    refine ⟨l, ⟨hl.symm, ?_, fun x hx => ?_⟩, hle, hmx⟩
    · by_cases h0 : l = []
      · exact .inl h0
      · have hpos : 0 < l.length := List.length_pos_iff.2 h0
        have hs : spot = none := by
          have := World.cell?_spot ((hp 0 _ (List.getElem?_eq_getElem hpos)).2 0 hz)
          simpa [Addr.add] using this
        subst hs
        refine .inr ⟨b, off, rfl, ?_, ?_⟩
        · have := World.block_lt_of_cell? W _ ((hp 0 _ (List.getElem?_eq_getElem hpos)).2 0 hz)
          simpa [Addr.add] using this
        · intro k x hk c hc
          have p0 := (hp k x hk).2 c hc
          have hadd : ∀ (o i : Nat), (⟨b, o, none⟩ : Addr).add i = ⟨b, o + i, none⟩ := by intro o i; unfold Addr.add; split <;> simp_all
          rw [hadd, hadd] at p0
          exact p0
    · obtain ⟨i, hi, rfl⟩ := List.mem_iff_getElem.1 hx
      exact (hp i _ (List.getElem?_eq_getElem hi)).1
end
section
variable {H : Type} {enc : TypeId × Value → H} {W : World} {base b0 fuel : Nat} {r : Reach} {sp : Nat → Bool} {held : Bool} {v : Value} {d : DataW H} {p : List MemPlace} {cs : List Value} {x : DataW H × List MemPlace}
theorem cellsStr : Try.prog.cellsOf 9 = 1 := by kernel_rfl
theorem cellsI : Try.prog.cellsOf 2 = 1 := by kernel_rfl
set_option maxRecDepth 100000 in
theorem open_str (hv : Value.okWide Try.prog W r base 9 v) (h : DataW.Trod enc Try.prog W b0 sp held 9 v d p) : ∃ s : ByteArray, v = .string s ∧ s.size ≤ maxLen := by
  obtain ⟨s, rfl⟩ := okWide_string Try.underlying9 hv
  obtain ⟨fuel, hf⟩ := h
  obtain ⟨s', h1, _, hs⟩ := DataW.trod_string Try.underlying9 hf
  simp [Value.cells] at h1
  subst h1
  exact ⟨s, rfl, hs⟩
set_option maxRecDepth 100000 in
theorem trod_str1 {c : Value} (h : DataW.trod enc Try.prog W b0 sp held fuel 9 [c] = some x) : ∃ s : ByteArray, c = .string s ∧ s.size ≤ maxLen := by
  obtain ⟨s, e0, _, hs⟩ := DataW.trod_string Try.underlying9 h
  simp at e0
  exact ⟨s, e0, hs⟩
set_option maxRecDepth 100000 in
theorem trod_int1 {c : Value} (h : DataW.trod enc Try.prog W b0 sp held fuel 2 [c] = some x) : ∃ n : Int, c = .int .i64 n ∧ (Lit.int .i64 n).wf = true := by
  obtain ⟨s, e0, _, hs⟩ := DataW.trod_int Try.underlying2 h
  simp at e0
  exact ⟨s, e0, hs⟩
theorem bounds_u8 {n : Int} (h : (Lit.int .u8 n).wf = true) : 0 ≤ n ∧ n ≤ 255 := by
  simp only [Lit.wf, Bool.and_eq_true, decide_eq_true_eq] at h
  obtain ⟨h0, h1⟩ := h
  exact ⟨h0, h1⟩
theorem bounds_i64 {n : Int} (h : (Lit.int .i64 n).wf = true) : -9223372036854775808 ≤ n ∧ n ≤ 9223372036854775807 := by
  simp only [Lit.wf, Bool.and_eq_true, decide_eq_true_eq] at h
  obtain ⟨h0, h1⟩ := h
  exact ⟨h0, h1⟩
/-- A slice of names that came in. -/
def fS (s : ByteArray) (_ : Nat) : Value := .string s
set_option maxRecDepth 100000 in
theorem open_strs (hv : Value.okWide Try.prog W r base 30 v) (h : DataW.Trod enc Try.prog W b0 sp held 30 v d p) :
    ∃ (A : Option Addr) (n cap : Nat) (l : List ByteArray), v = .slice A n cap ∧ SlR 1 fS (fun _ s => s.size ≤ maxLen) W A n l ∧ n ≤ cap ∧ cap ≤ maxLen := by
  obtain ⟨A, n, cap, rfl⟩ := okWide_slice Try.underlying30 hv
  obtain ⟨fuel, hf⟩ := h
  obtain ⟨l, hl⟩ := trod_slz (z := 1) (by omega) (f := fS) (Pr := fun s => s.size ≤ maxLen) Try.underlying30 cellsStr (fun k cs y hy => by
    obtain ⟨s, e0, _, hs⟩ := DataW.trod_string Try.underlying9 hy
    exact ⟨s, e0, hs⟩) (A := A) (n := n) (cap := cap) hf
  exact ⟨A, n, cap, l, rfl, hl⟩
end
end Go.Proofs.Ytingeijodooocaa
