/- Chapter 13: the program's Names: the map's keys, sorted. -/
import Derived.Test.YtobgolceggeogaaIt
import Derived.Test.YtobgolceggeogaaRefF
import Derived.Test.YtobgolceggeogaaRefD
import Derived.Sort.KeysCollected
import Derived.Maps.Keyed
namespace Go.Proofs.Ytobgolceggeogaa
open Go.RowKit Go.Maps
/-- The keys of what the map holds, each once. -/
def KeysOf (A : Acc) (ss : List (List UInt8)) : Prop := ∀ ts : List (List UInt8), ts.Nodup → (∀ k, k ∈ ts ↔ (A k).isSome = true) → ss.Perm ts
set_option maxRecDepth 20000 in
set_option maxHeartbeats 2000000 in
theorem names_led (B L n : Nat) (A : Acc) (w : World) (h : LedB B w L n A) :
    Calls Try.prog 28 #[.pointer (some ⟨L, 0, none⟩)] w fun e w' => ∃ v ss, e = .returned v ∧ KeysOf A ss ∧ w'.ownsRow w.heap.size 9 1 v ss.length ((ss.mergeSort (fun x y => decide (x ≤ y))).map encStr) ∧ Below w.heap.size w w' := by
  obtain ⟨hn, -, -, m, hL, -⟩ := h
  have hlt := led_lt hL
  obtain ⟨hc, hf⟩ := led_cell hL
  have hK := (callsIn_wide (n := 5)).1 (Try.maps_Keys_39 m w)
  have hB : Below w.heap.size w (w.alloc (.cells #[.map m] 59)) := (Below.refl _ _).alloc (Nat.le_refl _) _
  have hS : Calls Try.prog 38 #[.func (.func 42) #[] #[.pointer (some ⟨w.heap.size, 0, none⟩)]] (w.alloc (.cells #[.map m] 59)) fun e w' => ∃ v ss, e = .returned v ∧ KeysOf A ss ∧ w'.ownsRow (w.alloc (.cells #[.map m] 59)).heap.size 9 1 v ss.length ((ss.mergeSort (fun x y => decide (x ≤ y))).map encStr) ∧ Below (w.alloc (.cells #[.map m] 59)).heap.size (w.alloc (.cells #[.map m] 59)) w' := by
    cases m with
    | none =>
      obtain ⟨-, h1⟩ := hL.2
      exact ((callsIn_wide (n := 5)).1 (Try.slices_Sorted_keys_nil_38_39 w)).mono fun e w' ⟨v, ss, q1, q2, q3, _, q5⟩ => ⟨v, ss, q1, fun ts _ hm => by
        have : ts = [] := List.eq_nil_iff_forall_not_mem.2 fun k hk => by have := (hm k).1 hk; rw [h1] at this; cases this
        rw [q2, this], q3, q5⟩
    | some b =>
      obtain ⟨D, hD, hS, hz⟩ := hL.2
      exact ((callsIn_wide (n := 5)).1 (Try.slices_Sorted_keys_38_39 b n D _ w hD (by rw [hz]; unfold maxLen; omega) (by rw [hz]; omega))).mono fun e w' ⟨v, ss, q1, q2, q3, _, q5⟩ => ⟨v, ss, q1, fun ts hnd hm => q2.trans (Go.Collected.perm (left := fun _ => false) (D0 := D) ⟨hnd, fun x => by rw [hm x, hS.has]; simp⟩ hD (string_keyed Try.underlying9) Try.underlying9 (fun _ => rfl)).symm, q3, q5⟩
  clear hL
  go_enter Try.func28, Try.ntmps28
  go_wp2_with fail
  refine hK.mono ?_
  rintro e w1 ⟨rfl, rfl⟩
  go_wp2_with fail
  refine hS.mono ?_
  rintro e w2 ⟨v2, ss, rfl, hk, hrow, hb⟩
  go_wp2
  go_ret
  exact ⟨v2, ss, rfl, hk, ⟨by have := hrow.1; simp, hrow.2.imp id (fun ⟨g, cap, cur, e1, hg, r⟩ => ⟨g, cap, cur, e1, by simp at hg; omega, r⟩)⟩, hB.trans (hb.mono hB.size)⟩
/-- The program's names and the row's: the same list. -/
theorem names_same {A : Acc} {n : Nat} {L : List RA} (h : RowO A n L) {ss : List (List UInt8)} (hk : KeysOf A ss) : (ss.mergeSort (fun x y => decide (x ≤ y))).map encStr = namesR L ∧ ss.length = L.length := by
  have hnd : (L.map (fun x => x.1.data.toList)).Nodup := by
    unfold List.Nodup
    rw [List.pairwise_map]
    refine List.Pairwise.imp ?_ h.2
    intro a b hab e
    rw [key_eq e, ltS_irr] at hab; cases hab
  have hm : ∀ k, k ∈ L.map (fun x => x.1.data.toList) ↔ (A k).isSome = true := fun k => by
    have e : k = (⟨k.toArray⟩ : ByteArray).data.toList := by simp
    rw [e, h.1.2.2 ⟨k.toArray⟩]
    constructor
    · intro hx
      obtain ⟨x, hx, hk⟩ := List.mem_map.1 hx
      cases hl : look L ⟨k.toArray⟩ with
      | some y => rfl
      | none => exact absurd (List.mem_map.2 ⟨x, hx, key_eq hk⟩) ((look_none L _).1 hl)
    · intro hl
      rcases look_find L ⟨k.toArray⟩ with ⟨-, h2⟩ | ⟨i, hi, -, h2, -⟩
      · rw [h2] at hl; cases hl
      · exact List.mem_map.2 ⟨L[i], List.getElem_mem _, by rw [h2]⟩
  have p := hk _ hnd hm
  refine ⟨?_, by rw [p.length_eq, List.length_map]⟩
  rw [sorted_names h.2 p, List.map_map]
  rfl
end Go.Proofs.Ytobgolceggeogaa
