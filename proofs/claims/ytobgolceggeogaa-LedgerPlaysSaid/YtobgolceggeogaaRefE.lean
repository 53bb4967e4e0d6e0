/- droverref01.Same at two rows of one list of names: true. -/
import Derived.Test.YtobgolceggeogaaRefZ
import Derived.BigQuiet
import Derived.Deep.QuietTactic
import Derived.IntWalk
namespace Go.Proofs.Ytobgolceggeogaa
open Go.RowKit Go.Maps
theorem rowS_cells {B n : Nat} {w : World} {v : Value} {l : List RA} (h : w.ownsRow B 9 1 v n (l.map (fun x => Value.string x.1))) (hn : n = l.length) (h0 : 0 < l.length) :
    ∃ g cap, v = .slice (some ⟨g, 0, none⟩) n cap ∧ g < w.heap.size ∧ ∀ j, (hj : j < l.length) → w.cell? ⟨g, j, none⟩ = some (.string l[j].1) := by
  subst hn
  obtain ⟨-, ⟨-, h4⟩ | ⟨g, cap, cur, rfl, hg, hh, hc, -, hs, ht⟩⟩ := h
  · omega
  · refine ⟨g, cap, rfl, lt_of_at hh, fun j hj => ?_⟩
    rw [blk_cell hh]
    have h5 : (cur.toList.take (l.length * 1))[j]? = cur.toList[j]? := by rw [List.getElem?_take, if_pos (by omega)]
    rw [ht] at h5
    simp only [List.getElem?_map, List.getElem?_eq_getElem hj, Option.map_some] at h5
    rw [h5]; simp
theorem sliceS {w : World} {B n : Nat} {v : Value} {xs : List Value} (h : w.ownsRow B 9 1 v n xs) : ∃ A cap, v = .slice A n cap := by
  obtain ⟨-, ⟨rfl, h0⟩ | ⟨g, cap, cur, rfl, _⟩⟩ := h
  · exact ⟨none, 0, by rw [h0]⟩
  · exact ⟨_, cap, rfl⟩
set_option maxRecDepth 20000 in
set_option maxHeartbeats 4000000 in
theorem sameS_eq {B B' : Nat} (w : World) (va vb : Value) (l : List RA) (ha : w.ownsRow B 9 1 va l.length (l.map (fun x => Value.string x.1))) (hb : w.ownsRow B' 9 1 vb l.length (l.map (fun x => Value.string x.1))) (hm : l.length ≤ 100) :
    Calls Try.prog 27 #[va, vb] w fun e w' => e = .returned (.bool true) ∧ Below w.heap.size w w' := by
  have HA := hid ha
  have HBb := hid hb
  obtain ⟨A, ca, rfl⟩ := sliceS ha
  obtain ⟨A', cb, rfl⟩ := sliceS hb
  obtain ⟨n, hn⟩ : ∃ n, n = l.length := ⟨_, rfl⟩
  have HN := hid hn
  rw [← hn] at hm HA HBb
  rw [← hn]
  clear hn ha hb
  go_enter Try.func27, Try.ntmps27
  go_wp2_with fail
  go_loopw [5] (fun i wr => ∃ k : Nat, k ≤ n ∧ i = .int .i64 k ∧ Hid (Below w.heap.size w wr)) (fun i _ => n - (intOf i).toNat)
  case atStart => exact ⟨0, Nat.zero_le _, rfl, by unfold Hid; exact (by repeat (first | with_reducible assumption | with_reducible exact Below.refl _ _ | with_reducible refine Below.drew ?_ | with_reducible refine below_drewN ?_ _ | with_reducible refine below_alloc ?_ _ | with_reducible refine Below.alloc ?_ (by first | omega | (simp; done) | (simp; omega)) _ | with_reducible refine Below.setCell ?_ (by first | omega | (simp; done) | (simp; omega)) _ | with_reducible refine below_setRow ?_ (by first | omega | (simp; done) | (simp; omega)) _))⟩
  case round =>
    obtain ⟨k, hkn, rfl, HB⟩ := hrel
    by_cases hk : k < n
    · have hkl : k < l.length := by have := HN.out; omega
      obtain ⟨g, c1, e1, hgl, hcell⟩ := rowS_cells HA.out HN.out (by omega)
      obtain ⟨g', c1', e1', hgl', hcell'⟩ := rowS_cells HBb.out HN.out (by omega)
      cases e1
      cases e1'
      obtain ⟨x, hx⟩ : ∃ x, x = l[k].1 := ⟨_, rfl⟩
      have q0 : wr.cell? ⟨g, k, none⟩ = some (.string x) := by rw [hx]; exact (HB.out.cell (p := ⟨g, k, none⟩) hgl).trans (hcell k hkl)
      have p0 : wr.cell? ⟨g', k, none⟩ = some (.string x) := by rw [hx]; exact (HB.out.cell (p := ⟨g', k, none⟩) hgl').trans (hcell' k hkl)
      have hl1 : g < wr.heap.size := Nat.lt_of_lt_of_le hgl HB.out.size
      have hl2 : g' < wr.heap.size := Nat.lt_of_lt_of_le hgl' HB.out.size
      clear hx hcell hcell' hgl hgl'
      have kl : (k : Int) < (n : Int) := by omega
      have HK1 : Hid (k + 1 ≤ n) := hk
      have HM1 : Hid (n - (k + 1) < n - k) := by unfold Hid; omega
      go_wp2
      go_quiet (fail)
      go_wp2
      go_roundw
      case rel => exact ⟨k + 1, HK1.out, by go_num, hid (below_drewN HB.out _)⟩
      case measure => have := HM1.out; simp [intOf]; omega
    · obtain rfl : k = n := by omega
      go_wp2
      go_ret
      exact ⟨rfl, HB.out⟩
end Go.Proofs.Ytobgolceggeogaa
