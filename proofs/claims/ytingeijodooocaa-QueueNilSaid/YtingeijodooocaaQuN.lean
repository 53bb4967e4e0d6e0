/- Chapter 14's queue and heap: New. -/
import Derived.Test.YtingeijodooocaaQuH
namespace Go.Proofs.Ytingeijodooocaa
open Go.RowKit
variable {B q nA nH c : Nat} {w w' : World} {m : Option (Nat × Nat)} {A : WMap} {Hm : HMap} {D : List UInt8 → Hd} {L : List Wt}
/-- The heap of nothing. -/
def mm0 : Mm := ⟨0, 0, fun _ => 0, fun _ => 0, fun _ => (0, 0, 0)⟩
theorem lnk0 : Lnk mm0 := ⟨by decide, by decide, fun i hi => absurd hi (Nat.not_lt_zero i), fun x hx => absurd hx (Nat.not_lt_zero x)⟩
theorem ivl0 (k : Nat → K3) : Ivl (LtM k) mm0.n mm0.e := ⟨fun _ ha => absurd ha (Nat.not_lt_zero _), fun j _ hj => absurd hj (Nat.not_lt_zero j), fun j _ hj => absurd hj (Nat.not_lt_zero j)⟩
theorem mnew_g (B : Nat) (w : World) (hB : B ≤ w.heap.size) :
    Calls Try.prog 23 #[] w fun e w' => e = .returned (.pointer (some ⟨w.heap.size, 0, none⟩)) ∧ MmV B w' w.heap.size (.slice none 0 0) (.slice none 0 0) (.slice none 0 0) mm0 ∧ Below w.heap.size w w' := by
  go_enter Try.func23, Try.ntmps23
  go_wp2
  go_ret
  refine ⟨rfl, ⟨hB, (by (repeat (first | (with_reducible assumption) | (with_reducible exact alloc_at _ _) | ((with_reducible apply alloc_at'); (simp; done)) | (with_reducible apply alloc_at_lt) | (with_reducible apply heap_drew_at) | (with_reducible apply heap_drewN_at) | (with_reducible apply heap_setCell_same) | ((with_reducible apply heap_set_ne); (first | omega | (dsimp only; omega) | (simp; done) | (simp; omega))) | (with_reducible apply setRow_at) | ((with_reducible apply setRow_ne); (first | omega | (dsimp only; omega) | (simp; done) | (simp; omega)))))), ⟨rfl, .inl ⟨rfl, rfl⟩⟩, ⟨rfl, .inl ⟨rfl, rfl⟩⟩, ⟨rfl, .inl ⟨rfl, rfl⟩⟩, fun b h => ?_, fun b h => (by cases h), fun b h => (by cases h)⟩, (by repeat (first | with_reducible assumption | with_reducible exact Below.refl _ _ | with_reducible refine Below.drew ?_ | with_reducible refine below_drewN ?_ _ | with_reducible refine below_alloc ?_ _ | with_reducible refine Below.alloc ?_ (by first | omega | (simp; done) | (simp; omega)) _ | with_reducible refine Below.setCell ?_ (by first | omega | (simp; done) | (simp; omega)) _ | with_reducible refine below_setRow ?_ (by first | omega | (simp; done) | (simp; omega)) _))⟩
  rcases h with h | h | h <;> cases h
theorem qnew_g (B : Nat) (w : World) (hB : B ≤ w.heap.size) (D : List UInt8 → Hd) :
    Calls Try.prog 9 #[] w fun e w' => e = .returned (.pointer (some ⟨w.heap.size, 0, none⟩)) ∧ QuV B w' w.heap.size none 0 noI 0 noA D [] 0 ∧ Below w.heap.size w w' := by
  have hblk : ∀ W : World, W.heap[w.heap.size]? = some (.cells #[.map none, .map none] 54 (0, 0)) → W.heap[w.heap.size]? = some (.cells #[.map ((none : Option (Nat × Nat)).map (·.1)), .map ((none : Option (Nat × Nat)).map (·.2))] 54 (0, 0)) := fun W h => h
  go_enter Try.func9, Try.ntmps9
  go_wp2
  go_ret
  refine ⟨rfl, ⟨⟨hB, hblk _ (by (repeat (first | (with_reducible assumption) | (with_reducible exact alloc_at _ _) | ((with_reducible apply alloc_at'); (simp; done)) | (with_reducible apply alloc_at_lt) | (with_reducible apply heap_drew_at) | (with_reducible apply heap_drewN_at) | (with_reducible apply heap_setCell_same) | ((with_reducible apply heap_set_ne); (first | omega | (dsimp only; omega) | (simp; done) | (simp; omega))) | (with_reducible apply setRow_at) | ((with_reducible apply setRow_ne); (first | omega | (dsimp only; omega) | (simp; done) | (simp; omega)))))), fun _ => ⟨rfl, rfl, rfl, rfl⟩, fun _ _ h => (by cases h)⟩, ?_, ?_, ?_, ?_, ?_, ?_, ⟨List.Pairwise.nil, List.Pairwise.nil⟩, ?_, rfl, by omega⟩, (by repeat (first | with_reducible assumption | with_reducible exact Below.refl _ _ | with_reducible refine Below.drew ?_ | with_reducible refine below_drewN ?_ _ | with_reducible refine below_alloc ?_ _ | with_reducible refine Below.alloc ?_ (by first | omega | (simp; done) | (simp; omega)) _ | with_reducible refine Below.setCell ?_ (by first | omega | (simp; done) | (simp; omega)) _ | with_reducible refine below_setRow ?_ (by first | omega | (simp; done) | (simp; omega)) _))⟩
  · intro t b h; cases h
  · intro t u b b' h; cases h
  · intro t b h; cases h
  · intro t b h; cases h
  · intro j v x h; cases h
  · intro j v x h; cases h
  · intro v
    constructor
    · intro h; cases h
    · rintro ⟨x, h⟩; cases h
end Go.Proofs.Ytingeijodooocaa
