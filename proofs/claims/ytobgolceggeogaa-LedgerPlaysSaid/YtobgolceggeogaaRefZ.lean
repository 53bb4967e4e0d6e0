/- Chapter 13's reference: Names. -/
import Derived.Test.YtobgolceggeogaaRefY
import Derived.Test.YtobgolceggeogaaLedA
namespace Go.Proofs.Ytobgolceggeogaa
open Go.RowKit
theorem infoSt : (Try.prog.info? 9).map (fun i => (i.zero, i.size, i.bytes)) = some (some (.string ⟨#[]⟩), 1, 16) := by kernel_rfl
theorem app_str {W : World} {base n : Nat} {v : Value} {xs : List Value} (hown : W.ownsRow base 9 1 v n xs) (hm : n ≤ 1000) (hbase : base ≤ W.heap.size) (s : ByteArray) :
    ∃ v' w', (Builtin.append_ #[56, 56] 56 #[v, .slice (some ⟨W.heap.size, 0, none⟩) 1 1]).run Try.prog (W.alloc (.cells #[.string s] 9)) = .ok v' w' ∧
      w'.ownsRow base 9 1 v' (n + 1) (xs ++ [.string s]) ∧ (W.alloc (.cells #[.string s] 9)).grownBy w' v.ownBlock := by
  obtain ⟨i0, hi, hz0, hz1, hz2⟩ := info_parts infoSt
  obtain ⟨v', w', h1, h2, h3, -⟩ := run_append_own (P := Try.prog) (W.alloc (.cells #[.string s] 9)) base 56 56 9 i0 _ 1 16 Try.underlying56 hi hz0 hz1 hz2 rfl (by omega) v n xs (hown.alloc _)
    ⟨W.heap.size, 0, none⟩ 1 1 [.string s] rfl (World.news_of_block (alloc_at _ _)) (fun u hu => by rw [List.mem_singleton] at hu; subst hu; rfl) (by unfold maxLen; omega) (by omega) (by simp; omega)
  exact ⟨v', w', h1, h2, h3⟩
theorem slice_str {w : World} {B n : Nat} {v : Value} {xs : List Value} (h : w.ownsRow B 9 1 v n xs) : ∃ A cap, v = .slice A n cap := by
  obtain ⟨-, ⟨rfl, h0⟩ | ⟨g, cap, cur, rfl, _⟩⟩ := h
  · exact ⟨none, 0, by rw [h0]⟩
  · exact ⟨_, cap, rfl⟩
theorem below_grown' {w wr w8 : World} {r : Option Nat} {o : Obj} (h : Below w.heap.size w wr) (hg : (wr.alloc o).grownBy w8 r) (hr : ∀ j, r = some j → w.heap.size ≤ j) : Below w.heap.size w w8 :=
  (h.alloc h.size o).trans (below_grown hg (by have := h.size; simp; omega) hr)
def namesR (L : List RA) : List Value := L.map (fun x => Value.string x.1)
set_option maxRecDepth 20000 in
set_option maxHeartbeats 4000000 in
theorem rnames_any (B R : Nat) (v : Value) (L : List RA) (w : World) (hR : RefL B w R v L) (hm : L.length ≤ 100) :
    Calls Try.prog 25 #[.pointer (some ⟨R, 0, none⟩)] w fun e w' => ∃ v, e = .returned v ∧ w'.ownsRow w.heap.size 9 1 v L.length (namesR L) ∧ Below w.heap.size w w' := by
  have HR := hid hR
  have hlR := lt_of_at hR.2.1
  obtain ⟨A, cap, rfl⟩ := hR.slice
  have r0 : w.cell? ⟨R, 0, none⟩ = some (.slice A L.length cap) := (blk_cell hR.2.1 0).trans rfl
  clear hR
  obtain ⟨n, hn⟩ : ∃ n, n = L.length := ⟨_, rfl⟩
  have HN := hid hn
  rw [← hn] at r0 hm ⊢
  clear hn
  go_enter Try.func25, Try.ntmps25
  go_wp2_with fail
  go_loopw [3, 4] (fun s3 i wr => ∃ (k : Nat) (v3 : Value), k ≤ n ∧ v3 = s3 ∧ i = .int .i64 k ∧ Hid (wr.ownsRow w.heap.size 9 1 v3 k (namesR (L.take k))) ∧ Hid (Below w.heap.size w wr)) (fun _ i _ => n - (intOf i).toNat)
  case atStart => exact ⟨0, _, Nat.zero_le _, rfl, rfl, World.ownsRow_nil _ _ _ _, Below.refl _ _⟩
  case round =>
    obtain ⟨k, v3, hkn, rfl, rfl, HO, HB⟩ := hrel
    have r1 : wr.cell? ⟨R, 0, none⟩ = some (.slice A n cap) := (HB.out.cell (p := ⟨R, 0, none⟩) hlR).trans r0
    have hlr : R < wr.heap.size := Nat.lt_of_lt_of_le hlR HB.out.size
    by_cases hkn2 : k < n
    · have hkl : k < L.length := by have := HN.out; omega
      have R3 := HR.out.below HB.out
      obtain ⟨g, cap', e', hg, hgR, hgl, hgf, hcell⟩ := R3.row (by omega)
      rw [← HN.out] at e'
      cases e'
      have q0 : wr.cell? ⟨g, k * 9, none⟩ = some (.string L[k].1) := (hcell k hkl 0 (by omega)).trans rfl
      obtain ⟨x, hx⟩ : ∃ x, x = L[k].1 := ⟨_, rfl⟩
      rw [← hx] at q0
      have HTK : Hid (namesR (L.take (k + 1)) = namesR (L.take k) ++ [.string x]) := by
        unfold Hid namesR
        have h1 : L.take (k + 1) = L.take k ++ [L[k]] := by rw [List.take_add_one, List.getElem?_eq_getElem hkl]; rfl
        rw [h1, List.map_append, hx]
        rfl
      have HK1 : Hid (k + 1 ≤ n) := hkn2
      have HM1 : Hid (n - (k + 1) < n - k) := by unfold Hid; omega
      have kl : (k : Int) < (n : Int) := by omega
      have ho := HO.out
      obtain ⟨A3, cap3, rfl⟩ := slice_str ho
      obtain ⟨v8, w8, happ, hown8, hg8⟩ := app_str ho (by omega) HB.out.size x
      have HAPP := hid happ
      have HN8 : Hid (w8.ownsRow w.heap.size 9 1 v8 (k + 1) (namesR (L.take (k + 1)))) := by
        unfold Hid
        rw [HTK.out]
        exact hown8
      have HB8 : Hid (Below w.heap.size w w8) := below_grown' HB.out hg8 (fun j e => (ho.lt j e).1)
      clear R3 hkn hx hcell happ hown8 hg8 ho
      go_wp2_with (first | (at_builtin; refine wpList_append_eq rfl _ _ _ rfl rfl rfl HAPP.out ?_))
      go_roundw
      case rel => exact ⟨k + 1, v8, HK1.out, rfl, by go_num, HN8, HB8⟩
      case measure => have := HM1.out; simp [intOf]; omega
    · obtain rfl : k = n := by omega
      have HF : Hid (wr.ownsRow w.heap.size 9 1 v3 k (namesR L)) := by
        have := HO.out
        rwa [List.take_of_length_le (by have := HN.out; omega)] at this
      go_wp2
      go_ret
      exact ⟨_, rfl, HF.out, HB.out⟩
end Go.Proofs.Ytobgolceggeogaa
