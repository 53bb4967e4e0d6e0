/- Contracts of chapter 10's New, Get, Cancel, Next, Len, and of all calls on no clock. -/
import Derived.Test.YtkplhobiciddoaaTim8
namespace Go.Proofs.Ytkplhobiciddoaa
open Go.RowKit Go.Maps Go.WideShapes
/-- An empty clock, as it is laid. -/
theorem Clk.start {zn : Value} {B c : Nat} {w : World} (hB : B ≤ c) (h : w.heap[c]? = some (.cells #[zn, .slice none 0 0, .map none] 63 (0, 0))) : Clk B w c zn (.slice none 0 0) none [] :=
  ⟨⟨noA, ⟨hB, h, ⟨rfl, .inl ⟨rfl, rfl⟩⟩, (fun _ e => nomatch e), ⟨rfl, rfl⟩⟩, (fun _ _ => ⟨(fun e => nomatch e), (fun ⟨j, hj, _⟩ => absurd hj (Nat.not_lt_zero j))⟩)⟩, (fun _ h => nomatch h), Nat.le_trans hB (Nat.le_of_lt (lt_of_at h)), (fun k _ hk => absurd hk (Nat.not_lt_zero k)), Nat.zero_le _⟩
theorem lenc_any {zn : Value} (B c : Nat) (v : Value) (m : Option Nat) (l : List Al) (w : World) (h : Clk B w c zn v m l) :
    Calls Try.prog 40 #[.pointer (some ⟨c, 1, none⟩)] w fun e w' => e = .returned (.int .i64 l.length) ∧ Below w.heap.size w w' := by
  obtain ⟨I, h1, -⟩ := h.st
  exact len_any B c l.length v m l I w h1
/-- What Cancel leaves. -/
def CancelR (l : List Al) (s : ByteArray) (l' : List Al) : Prop := (l'.length + (if hasN l s = true then 1 else 0) = l.length) ∧ ∀ x, x ∈ l' ↔ x ∈ l ∧ x.1 ≠ s
theorem take_mem {l : List Al} {k : Nat} (h : l.length = k + 1) (hd : ∀ i j, i < l.length → j < l.length → (el l i).1 = (el l j).1 → i = j) (x : Al) : x ∈ l.take k ↔ x ∈ l ∧ x.1 ≠ (el l k).1 := by
  constructor
  · intro hx
    obtain ⟨i, hi, rfl⟩ := mem_el hx
    have hik : i < k := by simp at hi; omega
    rw [el_take hik]
    exact ⟨el_mem (by omega), fun e => by have := hd i k (by omega) (by omega) e; omega⟩
  · rintro ⟨hx, hne⟩
    obtain ⟨i, hi, rfl⟩ := mem_el hx
    have hik : i < k := by
      have : i ≠ k := fun e => hne (by rw [e])
      omega
    rw [← el_take (l := l) hik]
    exact el_mem (by simp; omega)
theorem apart_perm {l l' : List Al} (p : l'.Perm l) (h : ∀ x ∈ l, ∀ y ∈ l, x.1 = y.1 → x = y) (hn : l.Nodup) : ∀ i j, i < l'.length → j < l'.length → (el l' i).1 = (el l' j).1 → i = j := by
  intro i j hi hj e
  have h1 := h _ (p.mem_iff.1 (el_mem hi)) _ (p.mem_iff.1 (el_mem hj)) e
  have hn' : l'.Nodup := p.symm.nodup hn
  rw [el_eq hi, el_eq hj] at h1
  exact (List.getElem_inj hn').1 h1
theorem Clk.names {zn : Value} {B c : Nat} {w : World} {v : Value} {m : Option Nat} {l : List Al} (h : Clk B w c zn v m l) : (∀ x ∈ l, ∀ y ∈ l, x.1 = y.1 → x = y) ∧ l.Nodup := by
  refine ⟨fun x hx y hy e => ?_, ?_⟩
  · obtain ⟨i, hi, rfl⟩ := mem_el hx
    obtain ⟨j, hj, rfl⟩ := mem_el hy
    rw [h.inj hi hj e]
  · rw [List.nodup_iff_pairwise_ne, List.pairwise_iff_getElem]
    intro i j hi hj hij e
    have := h.inj hi hj (by rw [el_eq hi, el_eq hj, e])
    omega
theorem infoAlS : (Try.prog.info? 71).map (·.size) = some 2 := by kernel_rfl
end Go.Proofs.Ytkplhobiciddoaa
