/- Contract of the reference's Close of chapter 13. -/
import Derived.Test.YtobgolceggeogaaRefN
import Derived.Test.YtobgolceggeogaaLedA
import Derived.IntWalk
namespace Go.Proofs.Ytobgolceggeogaa
open Go.RowKit
/-- Some accounts that lie somewhere are appended to a row. -/
theorem app_accts {B : Nat} {W : World} {v : Value} {n m c : Nat} {l l' : List RA} (hB : B ≤ W.heap.size) (hown : W.ownsRow B 73 9 v n (flatA l)) (hn : n = l.length) (hm' : m = l'.length) (hm : n + m ≤ 100000) (ty : TypeId) (ad : Addr) (had : ∀ j u, (flatA l')[j]? = some u → W.cell? (ad.add j) = some u) :
    ∃ v' w', (Builtin.append_ #[37, 37] ty #[v, .slice (some ad) m c]).run Try.prog W = .ok v' w' ∧ w'.ownsRow B 73 9 v' (l ++ l').length (flatA (l ++ l')) ∧ W.grownBy w' v.ownBlock ∧ (v'.ownBlock = v.ownBlock ∨ v'.ownBlock = some W.heap.size) := by
  obtain ⟨i0, hi, hz0, hz1, hz2⟩ := info_parts infoAc
  subst hn hm'
  obtain ⟨v', w', h1, h2, h3, -, h7⟩ := run_append_own_at (P := Try.prog) W B 37 ty 73 i0 _ 9 80 Try.underlying37 hi hz0 hz1 hz2 rfl (by omega) _ l.length (flatA l) hown ad l'.length c (flatA l') (flatA_length l') had (flatA_one l') (by unfold maxLen; omega) (by omega) hB
  refine ⟨v', w', h1, ?_, h3, h7⟩
  rw [List.length_append, flatA_append]
  exact h2
theorem own_cells' {B n : Nat} {w : World} {v : Value} {xs : List Value} (h : w.ownsRow B 73 9 v n xs) : ∀ g, v.ownBlock = some g → ∃ cs f, w.heap[g]? = some (.cells cs 73 f) := by
  obtain ⟨-, ⟨rfl, h0⟩ | ⟨g, cap, cur, rfl, -, hh, -⟩⟩ := h
  · intro g e; cases e
  · intro g' e
    injection e with e
    simp only at e
    subst e
    exact ⟨_, _, hh⟩
theorem own_slice {B n : Nat} {w : World} {v : Value} {xs : List Value} (h : w.ownsRow B 73 9 v n xs) : ∃ A cap, v = .slice A n cap := by
  obtain ⟨-, ⟨rfl, rfl⟩ | ⟨g, cap, cur, rfl, -⟩⟩ := h
  · exact ⟨none, 0, rfl⟩
  · exact ⟨_, cap, rfl⟩
theorem ownsRow_set {B n R : Nat} {w : World} {v u : Value} {xs : List Value} (hne : v.ownBlock ≠ some R) (h : w.ownsRow B 73 9 v n xs) : (w.setCell ⟨R, 0, none⟩ u).ownsRow B 73 9 v n xs := by
  obtain ⟨h0, ⟨h1, h2⟩ | ⟨g, cap, cur, rfl, hg, hh, rest⟩⟩ := h
  · exact ⟨h0, .inl ⟨h1, h2⟩⟩
  · exact ⟨h0, .inr ⟨g, cap, cur, rfl, hg, (heap_setCell_other w ⟨R, 0, none⟩ g u (fun e => hne (by have e : g = R := e; rw [e]; rfl))).trans hh, rest⟩⟩
/-- A stretch of the row's cells. -/
theorem RefL.part {B R g n cap : Nat} {w : World} {l : List RA} (h : RefL B w R (.slice (some ⟨g, 0, none⟩) n cap) l) (i m : Nat) (him : i + m ≤ l.length) : ∀ j u, (flatA ((l.drop i).take m))[j]? = some u → w.cell? ((⟨g, i * 9, none⟩ : Addr).add j) = some u := by
  intro j u hu
  have hj : j < ((l.drop i).take m).length * 9 := by rw [← flatA_length]; exact (List.getElem?_eq_some_iff.1 hu).1
  have hlen : ((l.drop i).take m).length = m := by simp; omega
  rw [hlen] at hj
  have hq : j / 9 < ((l.drop i).take m).length := by rw [hlen]; omega
  have h1 := flatA_at ((l.drop i).take m) (j / 9) hq (j % 9) (by omega)
  rw [show j / 9 * 9 + j % 9 = j by omega, hu] at h1
  obtain ⟨-, -, -, hc⟩ := h.cells (by omega)
  have h2 := hc (i + j / 9) (by omega) (j % 9) (by omega)
  have e : ((l.drop i).take m)[j / 9] = l[i + j / 9]'(by omega) := by simp
  rw [e] at h1
  have hadd : (⟨g, i * 9, none⟩ : Addr).add j = ⟨g, (i + j / 9) * 9 + j % 9, none⟩ := by
    have h0 : ∀ (o i : Nat), (⟨g, o, none⟩ : Addr).add i = ⟨g, o + i, none⟩ := by intro o i; unfold Addr.add; split <;> simp_all
    rw [h0]
    congr 1
    omega
  rw [hadd, h2]
  exact h1.symm
set_option maxRecDepth 20000 in
set_option maxHeartbeats 4000000 in
theorem rclose_none (B R : Nat) (v : Value) (l : List RA) (s : ByteArray) (w : World) (hB : B ≤ w.heap.size) (hR : RefL B w R v l) (hm : l.length ≤ 1000) (hk : findI l s = -1) :
    Calls Try.prog 17 #[.pointer (some ⟨R, 0, none⟩), .string s] w fun e w' => e = .returned (.int .i64 3) ∧ RefPost B w w' R l := by
  have hfi := rfind_any B R v l s w hR (by omega)
  rw [hk] at hfi
  go_enter Try.func17, Try.ntmps17
  go_wp2_with fail
  refine hfi.mono ?_
  rintro e w1 ⟨rfl, hb1⟩
  have hs1 := hb1.size
  have R1 := hR.below hb1
  clear hfi
  have HB1 := hid hb1
  clear R1 hb1
  go_wp2
  go_ret
  exact ⟨rfl, RefPost.same hR hB HB1.out⟩
set_option maxRecDepth 20000 in
set_option maxHeartbeats 4000000 in
theorem rclose_used (B R : Nat) (v : Value) (l : List RA) (s : ByteArray) (w : World) (hB : B ≤ w.heap.size) (hR : RefL B w R v l) (hm : l.length ≤ 1000) (k : Nat) (hk : findI l s = k) (hkl : k < l.length) (hu : l[k].2.2 ≠ zeroV) :
    Calls Try.prog 17 #[.pointer (some ⟨R, 0, none⟩), .string s] w fun e w' => e = .returned (.int .i64 10) ∧ RefPost B w w' R l := by
  have hfi := rfind_any B R v l s w hR (by omega)
  rw [hk] at hfi
  go_enter Try.func17, Try.ntmps17
  go_wp2_with fail
  refine hfi.mono ?_
  rintro e w1 ⟨rfl, hb1⟩
  have hs1 := hb1.size
  have R1 := hR.below hb1
  clear hfi
  obtain ⟨g, cap, rfl, hg, hgR, hgl, hgf, hcell⟩ := R1.row (by omega)
  obtain ⟨y, hy⟩ : ∃ y, y = l[k] := ⟨_, rfl⟩
  rw [← hy] at hu
  have hcy : ∀ c, c < 9 → w1.cell? ⟨g, k * 9 + c, none⟩ = (cellsA y)[c]? := fun c hc => by rw [hy]; exact hcell k hkl c hc
  clear hcell hy
  obtain ⟨y0, ⟨y1, y2, y3, y4⟩, y5, y6, y7, y8⟩ := y
  have c5 : w1.cell? ⟨g, k * 9 + 5, none⟩ = some (.int .i64 y5) := (hcy 5 (by omega)).trans rfl
  have c6 : w1.cell? ⟨g, k * 9 + 6, none⟩ = some (.int .i64 y6) := (hcy 6 (by omega)).trans rfl
  have c7 : w1.cell? ⟨g, k * 9 + 7, none⟩ = some (.int .i64 y7) := (hcy 7 (by omega)).trans rfl
  have c8 : w1.cell? ⟨g, k * 9 + 8, none⟩ = some (.int .i64 y8) := (hcy 8 (by omega)).trans rfl
  have rc : w1.cell? ⟨R, 0, none⟩ = some (.slice (some ⟨g, 0, none⟩) l.length cap) := (blk_cell R1.2.1 0).trans rfl
  have hlR1 := lt_of_at R1.2.1
  clear hcy
  have hne : (y5 == 0 && (y6 == 0 && (y7 == 0 && y8 == 0))) = false := by
    simp only [zeroV, ne_eq, Prod.mk.injEq] at hu
    simp only [Bool.and_eq_false_iff, beq_eq_false_iff_ne, ne_eq]
    omega
  have HR1 := hid hR
  have HB1 := hid hb1
  clear hu R1 hR hb1
  go_wp2
  go_ret
  exact ⟨rfl, RefPost.same HR1.out hB HB1.out⟩
set_option maxRecDepth 20000 in
set_option maxHeartbeats 4000000 in
theorem rclose_ok (B R : Nat) (v : Value) (l : List RA) (s : ByteArray) (w : World) (hB : B ≤ w.heap.size) (hR : RefL B w R v l) (hm : l.length ≤ 1000) (k : Nat) (hk : findI l s = k) (hkl : k < l.length) (hu : l[k].2.2 = zeroV) :
    Calls Try.prog 17 #[.pointer (some ⟨R, 0, none⟩), .string s] w fun e w' => e = .returned (.int .i64 0) ∧ RefPost B w w' R (l.take k ++ l.drop (k + 1)) := by
  have hfi := rfind_any B R v l s w hR (by omega)
  rw [hk] at hfi
  go_enter Try.func17, Try.ntmps17
  go_wp2_with fail
  refine hfi.mono ?_
  rintro e w1 ⟨rfl, hb1⟩
  have hs1 := hb1.size
  have R1 := hR.below hb1
  clear hfi
  obtain ⟨g, cap, rfl, hg, hgR, hgl, hgf, hcell⟩ := R1.row (by omega)
  obtain ⟨y, hy⟩ : ∃ y, y = l[k] := ⟨_, rfl⟩
  rw [← hy] at hu
  have hcy : ∀ c, c < 9 → w1.cell? ⟨g, k * 9 + c, none⟩ = (cellsA y)[c]? := fun c hc => by rw [hy]; exact hcell k hkl c hc
  clear hcell hy
  obtain ⟨y0, ⟨y1, y2, y3, y4⟩, y5, y6, y7, y8⟩ := y
  have c5 : w1.cell? ⟨g, k * 9 + 5, none⟩ = some (.int .i64 y5) := (hcy 5 (by omega)).trans rfl
  have c6 : w1.cell? ⟨g, k * 9 + 6, none⟩ = some (.int .i64 y6) := (hcy 6 (by omega)).trans rfl
  have c7 : w1.cell? ⟨g, k * 9 + 7, none⟩ = some (.int .i64 y7) := (hcy 7 (by omega)).trans rfl
  have c8 : w1.cell? ⟨g, k * 9 + 8, none⟩ = some (.int .i64 y8) := (hcy 8 (by omega)).trans rfl
  have rc : w1.cell? ⟨R, 0, none⟩ = some (.slice (some ⟨g, 0, none⟩) l.length cap) := (blk_cell R1.2.1 0).trans rfl
  have hlR1 := lt_of_at R1.2.1
  clear hcy
  simp only [zeroV, Prod.mk.injEq] at hu
  obtain ⟨rfl, rfl, rfl, rfl⟩ := hu
  obtain ⟨v1, w2, happ1, hown2, hG2, hv1⟩ := app_accts (B := B) (W := w1) (l := []) (l' := l.take k) (m := k) (c := cap) (by omega) (World.ownsRow_nil w1 B 73 9) rfl (by simp; omega) (by omega) 37 ⟨g, 0, none⟩ (by have := R1.part 0 k (by omega); simpa using this)
  have hG2n : w1.grownBy w2 none := hG2
  have R2 := R1.below (grown_none hG2n (Nat.le_refl _))
  have hs2 := hG2n.size
  have hv1R : v1.ownBlock ≠ some R := by
    rcases hv1 with h | h
    · rw [h]; intro e; cases e
    · rw [h]; intro e; injection e with e; omega
  have hcap : l.length ≤ cap := by
    obtain ⟨-, -, -, ⟨h3, -⟩ | ⟨g', cap'', cur, h3, -, -, hc, -⟩⟩ := R1
    · cases h3
    · cases h3; exact hc
  by_cases hck : cap = k + 1
  · subst hck
    obtain ⟨v2, w3, happ2, hown3, hG3, hv2⟩ := app_accts (B := B) (W := w2) (v := v1) (n := k) (l := l.take k) (l' := l.drop (k + 1)) (m := 0) (c := 0) (by omega) (by have := hown2; simpa [show min k l.length = k by omega] using this) (by simp; omega) (by simp; omega) (by omega) 37 ⟨g, 0, none⟩ (by have hd : l.drop (k + 1) = [] := List.drop_eq_nil_of_le (by omega); rw [hd]; intro j u hu; simp [flatA] at hu)
    have hv2R : v2.ownBlock ≠ some R := by
      rcases hv2 with h | h
      · rw [h]; exact hv1R
      · rw [h]; intro e; injection e with e; omega
    obtain ⟨n2, hn2⟩ : ∃ n2, n2 = (l.take k ++ l.drop (k + 1)).length := ⟨_, rfl⟩
    rw [← hn2] at hown3
    obtain ⟨A2, c2, rfl⟩ := own_slice hown3
    have HN2 := hid hn2
    clear hn2
    have hR3 : w3.heap[R]? = some (.cells #[.slice (some ⟨g, 0, none⟩) l.length (k + 1)] 39 (0, 0)) := (hG3.block R (by omega) (fun e => hv1R e.symm)).trans R2.2.1
    have d0 : w3.cell? ⟨R, 0, none⟩ = some (.slice (some ⟨g, 0, none⟩) l.length (k + 1)) := (blk_cell hR3 0).trans rfl
    have df := blk_free hR3
    have rc2 : w2.cell? ⟨R, 0, none⟩ = some (.slice (some ⟨g, 0, none⟩) l.length (k + 1)) := (blk_cell R2.2.1 0).trans rfl
    have hlR2 := lt_of_at R2.2.1
    have hlR3 := lt_of_at hR3
    have K3 : KeptT w w3 := ((keptT_below hb1).trans (keptT_grown hG2n (fun _ e => by cases e))).trans (keptT_grown hG3 (own_cells' hown2))
    have B3 : Below B w w3 := ((Below.mono hb1 hB).trans (grown_none hG2n (by omega))).trans (below_grown hG3 (by omega) (fun j e => (hown2.lt j e).1))
    have H1 := hid happ1
    have H2 := hid happ2
    have HH3 := hid hR3
    have HO3 := hid hown3
    have HK3 := hid K3
    have HB3 := hid B3
    have hBR := hR.1
    clear happ1 happ2 R1 R2 hown3 K3 B3 hR3 hown2 hG3 hR hb1
    go_upto_region 8 with (at_builtin; refine wpList_append_eq rfl _ _ _ rfl rfl rfl H1.out ?_)
    go_upto_region 9 with (at_builtin; refine wpList_append_eq rfl _ _ _ rfl rfl rfl H2.out ?_)
    go_wp2
    go_ret
    have R4 : RefL B (w3.setCell ⟨R, 0, none⟩ (.slice A2 n2 c2)) R (.slice A2 n2 c2) (l.take k ++ l.drop (k + 1)) := ⟨hBR, heap_setCell_same _ _ _ _ _ _ HH3.out, (by rw [← HN2.out]; exact ownsRow_set hv2R HO3.out)⟩
    exact ⟨rfl, ⟨_, R4⟩, HB3.out.setCell hBR _, HK3.out.trans (keptT_set HH3.out (.inl rfl) _)⟩
  · obtain ⟨v2, w3, happ2, hown3, hG3, hv2⟩ := app_accts (B := B) (W := w2) (v := v1) (n := k) (l := l.take k) (l' := l.drop (k + 1)) (m := l.length - (k + 1)) (c := (cap - (k + 1))) (by omega) (by have := hown2; simpa [show min k l.length = k by omega] using this) (by simp; omega) (by simp) (by omega) 37 ⟨g, (k + 1) * 9, none⟩ (by
          have := R2.part (k + 1) (l.length - (k + 1)) (by omega)
          rwa [List.take_of_length_le (by simp)] at this)
    have hv2R : v2.ownBlock ≠ some R := by
      rcases hv2 with h | h
      · rw [h]; exact hv1R
      · rw [h]; intro e; injection e with e; omega
    obtain ⟨n2, hn2⟩ : ∃ n2, n2 = (l.take k ++ l.drop (k + 1)).length := ⟨_, rfl⟩
    rw [← hn2] at hown3
    obtain ⟨A2, c2, rfl⟩ := own_slice hown3
    have HN2 := hid hn2
    clear hn2
    have hR3 : w3.heap[R]? = some (.cells #[.slice (some ⟨g, 0, none⟩) l.length cap] 39 (0, 0)) := (hG3.block R (by omega) (fun e => hv1R e.symm)).trans R2.2.1
    have d0 : w3.cell? ⟨R, 0, none⟩ = some (.slice (some ⟨g, 0, none⟩) l.length cap) := (blk_cell hR3 0).trans rfl
    have df := blk_free hR3
    have rc2 : w2.cell? ⟨R, 0, none⟩ = some (.slice (some ⟨g, 0, none⟩) l.length cap) := (blk_cell R2.2.1 0).trans rfl
    have hlR2 := lt_of_at R2.2.1
    have hlR3 := lt_of_at hR3
    have K3 : KeptT w w3 := ((keptT_below hb1).trans (keptT_grown hG2n (fun _ e => by cases e))).trans (keptT_grown hG3 (own_cells' hown2))
    have B3 : Below B w w3 := ((Below.mono hb1 hB).trans (grown_none hG2n (by omega))).trans (below_grown hG3 (by omega) (fun j e => (hown2.lt j e).1))
    have H1 := hid happ1
    have H2 := hid happ2
    have HH3 := hid hR3
    have HO3 := hid hown3
    have HK3 := hid K3
    have HB3 := hid B3
    have hBR := hR.1
    clear happ1 happ2 R1 R2 hown3 K3 B3 hR3 hown2 hG3 hR hb1
    go_upto_region 8 with (at_builtin; refine wpList_append_eq rfl _ _ _ rfl rfl rfl H1.out ?_)
    go_upto_region 9 with (at_builtin; refine wpList_append_eq rfl _ _ _ rfl rfl rfl H2.out ?_)
    go_wp2
    go_ret
    have R4 : RefL B (w3.setCell ⟨R, 0, none⟩ (.slice A2 n2 c2)) R (.slice A2 n2 c2) (l.take k ++ l.drop (k + 1)) := ⟨hBR, heap_setCell_same _ _ _ _ _ _ HH3.out, (by rw [← HN2.out]; exact ownsRow_set hv2R HO3.out)⟩
    exact ⟨rfl, ⟨_, R4⟩, HB3.out.setCell hBR _, HK3.out.trans (keptT_set HH3.out (.inl rfl) _)⟩
end Go.Proofs.Ytobgolceggeogaa
