/- Contract of the reference's Expire of chapter 19. -/
import Derived.Test.YtkplhobiciddoaaRnD
import Derived.Test.YtkplhobiciddoaaWkY
namespace Go.Proofs.Ytkplhobiciddoaa
open Go.RowKit Go.Maps
/-- The list, k of its nodes seen to. -/
def expM (L : List Nd) (now : Int) (k : Nat) : List Nd := expL (L.take k) now ++ L.drop k
theorem expM_len (L : List Nd) (now : Int) (k : Nat) : (expM L now k).length = L.length := by
  unfold expM expL
  rw [List.length_append, List.length_map, List.length_take, List.length_drop]
  omega
theorem expM_at {L : List Nd} {now : Int} {k : Nat} (h : k < L.length) : (expM L now k)[k]'(by rw [expM_len]; exact h) = L[k] := by
  unfold expM
  rw [List.getElem_append_right (by unfold expL; rw [List.length_map, List.length_take]; omega)]
  simp only [expL, List.length_map, List.length_take, List.getElem_drop]
  congr 1
  omega
theorem expM_next {L : List Nd} {now : Int} {k : Nat} (h : k < L.length) : expM L now (k + 1) = (expM L now k).set k (if outN now L[k] then { L[k] with live := false } else L[k]) := by
  unfold expM
  have h1 : L.take (k + 1) = L.take k ++ [L[k]] := by rw [List.take_add_one, List.getElem?_eq_getElem h]; rfl
  have h2 : L.drop k = L[k] :: L.drop (k + 1) := List.drop_eq_getElem_cons h
  have h3 : (expL (L.take k) now).length = k := by unfold expL; rw [List.length_map, List.length_take]; omega
  rw [h2, List.set_append_right _ _ (by omega), h3, Nat.sub_self, List.set_cons_zero, h1]
  unfold expL
  rw [List.map_append, List.append_assoc]
  rfl
theorem expM_same {L : List Nd} {now : Int} {k : Nat} (h : k < L.length) (ho : outN now L[k] = false) : expM L now (k + 1) = expM L now k := by
  rw [expM_next h, ho, if_neg (by simp)]
  have q : ∀ (M : List Nd) (y : Nd) (hk : k < M.length), M[k] = y → M.set k y = M := fun M y hk e => by subst e; exact List.set_getElem_self _
  exact q _ _ (by rw [expM_len]; exact h) (expM_at h)
theorem expO_next {L : List Nd} {now : Int} {k : Nat} (h : k < L.length) : expO (L.take (k + 1)) now = expO (L.take k) now ++ (if outN now L[k] = true then [L[k]] else []) := by
  have h1 : L.take (k + 1) = L.take k ++ [L[k]] := by rw [List.take_add_one, List.getElem?_eq_getElem h]; rfl
  unfold expO
  rw [h1, List.filter_append]
  congr 1
  cases hh : outN now L[k] <;> simp [hh]
theorem RefN.keptY {B R : Nat} {w w' : World} {v : Value} {l : List Nd} (h : RefN B w R v l) (hk : KeptY w w') : RefN B w' R v l := by
  obtain ⟨h0, h1, h2⟩ := h
  refine ⟨h0, hk _ _ h1 (fun cs f e => by injection e with _ e; exact absurd e (by decide)), ownsRow_at h2 (fun g hg => ?_)⟩
  obtain ⟨-, ⟨rfl, -⟩ | ⟨g', cap, cur, rfl, -, hh, -⟩⟩ := h2
  · cases hg
  · injection hg with hg
    simp only at hg
    subst hg
    rw [hh]
    exact hk _ _ hh (fun cs f e => by injection e with _ e; exact absurd e (by decide))
theorem rowS_keptR {w w' : World} {B n : Nat} {v : Value} {xs : List Value} (h : w.ownsRow B 9 1 v n xs) (hk : KeptR w w') : w'.ownsRow B 9 1 v n xs :=
  ownsRow_at h (fun g hg => by
    obtain ⟨-, ⟨rfl, -⟩ | ⟨g', cap, cur, rfl, -, hh, -⟩⟩ := h
    · cases hg
    · injection hg with hg
      simp only at hg
      subst hg
      rw [hh]
      exact hk _ _ hh ⟨by decide, by decide⟩)
theorem KeptR.step {w wr w' : World} {r : Option Nat} (h : KeptR w wr) (hg : wr.grownBy w' r) (hr : ∀ j, r = some j → w.heap.size ≤ j) : KeptR w w' := fun k o hk hn => by
  have h3 := h k o hk hn
  exact (hg.block k (lt_of_at h3) (fun e => by have := hr k e.symm; have := lt_of_at hk; omega)).trans h3
set_option maxRecDepth 20000 in
set_option maxHeartbeats 4000000 in
theorem rexp_any (B R : Nat) (v : Value) (L : List Nd) (now : Int) (w : World) (hB : B ≤ w.heap.size) (hR : RefN B w R v L) (hm : L.length ≤ 12) (htm : ∀ x ∈ L, 0 ≤ x.seen ∧ x.seen ≤ 1099511627776) :
    Calls Try.prog 36 #[.pointer (some ⟨R, 0, none⟩), .int .i64 now] w fun e w' => ∃ v, e = .returned v ∧ w'.ownsRow w.heap.size 9 1 v (expO L now).length ((expO L now).map (fun x => Value.string x.name)) ∧ RnPost B w w' R (expL L now) := by
  obtain ⟨A, cap, rfl⟩ := rn_slice hR
  have hBH := hid hB
  have HTM := hid htm
  obtain ⟨n, hn⟩ : ∃ n, n = L.length := ⟨_, rfl⟩
  have HN := hid hn
  rw [← hn] at hR hm
  have HST : Hid (RefN B w R (.slice A n cap) (expM L now 0)) := hR
  have HST2 : Hid (w.ownsRow w.heap.size 9 1 (.slice none 0 0) (expO (L.take 0) now).length ((expO (L.take 0) now).map (fun x => Value.string x.name))) := World.ownsRow_nil _ _ _ _
  clear hn hR hB htm
  go_enter Try.func36, Try.ntmps36
  go_wp2_with fail
  go_loopw [5, 6] (fun s5 i wr => ∃ (k : Nat) (v5 : Value), k ≤ n ∧ v5 = s5 ∧ i = .int .i64 k ∧ Hid (RefN B wr R (.slice A n cap) (expM L now k)) ∧ Hid (wr.ownsRow w.heap.size 9 1 v5 (expO (L.take k) now).length ((expO (L.take k) now).map (fun x => Value.string x.name))) ∧ Hid (Below B w wr) ∧ Hid (KeptR w wr)) (fun _ i _ => n - (intOf i).toNat)
  case atStart => exact ⟨0, _, Nat.zero_le _, rfl, rfl, HST, HST2, Below.refl _ _, fun k o ho _ => ho⟩
  case round =>
    obtain ⟨k, v5, hkn, rfl, rfl, HR, HO, HB, HK⟩ := hrel
    clear HST HST2
    have R3 := HR.out
    have r0 : wr.cell? ⟨R, 0, none⟩ = some (.slice A n cap) := (blk_cell R3.2.1 0).trans rfl
    have rf := blk_free R3.2.1
    have hlR := lt_of_at R3.2.1
    by_cases hkn2 : k < n
    · have hkl : k < L.length := by have := HN.out; omega
      have hkM : k < (expM L now k).length := by rw [expM_len]; exact hkl
      obtain ⟨g, cap', e', hg, hgR, hgl, hgf, hcell⟩ := R3.row (by omega)
      rw [expM_len, ← HN.out] at e'
      cases e'
      obtain ⟨x, hx⟩ : ∃ x, x = L[k] := ⟨_, rfl⟩
      have hcx : ∀ c, c < 8 → wr.cell? ⟨g, k * 8 + c, none⟩ = (cellsN x)[c]? := fun c hc => by rw [hx, ← expM_at (now := now) hkl]; exact hcell k hkM c hc
      obtain ⟨ht0, ht1⟩ := HTM.out L[k] (List.getElem_mem _)
      rw [← hx] at ht0 ht1
      have HX := hid hx
      clear hcell hx R3
      obtain ⟨x0, x1, ⟨x2, x3, x4, x5⟩, x6, x7⟩ := x
      simp only at ht0 ht1
      have q0 : wr.cell? ⟨g, k * 8, none⟩ = some (.string x0) := (hcx 0 (by omega)).trans rfl
      have q1 : wr.cell? ⟨g, k * 8 + 1, none⟩ = some (.int .i64 x1) := (hcx 1 (by omega)).trans rfl
      have q2 : wr.cell? ⟨g, k * 8 + 2, none⟩ = some (.int .i64 x2) := (hcx 2 (by omega)).trans rfl
      have q3 : wr.cell? ⟨g, k * 8 + 3, none⟩ = some (.int .i64 x3) := (hcx 3 (by omega)).trans rfl
      have q4 : wr.cell? ⟨g, k * 8 + 4, none⟩ = some (.int .i64 x4) := (hcx 4 (by omega)).trans rfl
      have q5 : wr.cell? ⟨g, k * 8 + 5, none⟩ = some (.int .i64 x5) := (hcx 5 (by omega)).trans rfl
      have q6 : wr.cell? ⟨g, k * 8 + 6, none⟩ = some (.int .i64 x6) := (hcx 6 (by omega)).trans rfl
      have q7 : wr.cell? ⟨g, k * 8 + 7, none⟩ = some (.bool x7) := (hcx 7 (by omega)).trans rfl
      clear hcx
      have iws : IntKind.i64.wrap (x6 + 10) = x6 + 10 := IntWalk.i64_in _ (by omega)
      have kl : (k : Int) < (n : Int) := by omega
      have HK1 : Hid (k + 1 ≤ n) := hkn2
      have HM1 : Hid (n - (k + 1) < n - k) := by unfold Hid; omega
      have HKM := hid hkM
      clear ht0 ht1 hkn hkM
      have no : outN now L[k] = false → Hid (RefN B wr R (.slice (some ⟨g, 0, none⟩) n cap) (expM L now (k + 1))) ∧ Hid (wr.ownsRow w.heap.size 9 1 v5 (expO (L.take (k + 1)) now).length ((expO (L.take (k + 1)) now).map (fun x => Value.string x.name))) := fun h => by
        refine ⟨by unfold Hid; rw [expM_same hkl h]; exact HR.out, ?_⟩
        unfold Hid
        rw [expO_next hkl, h, if_neg (by simp), List.append_nil]
        exact HO.out
      cases x7 with
      | false =>
        have HNO := hid (no (by rw [← HX.out]; rfl))
        clear no
        go_wp2
        go_roundw
        case rel => exact ⟨k + 1, v5, HK1.out, rfl, by go_num, HNO.out.1, HNO.out.2, HB, HK⟩
        case measure => have := HM1.out; simp [intOf]; omega
      | true =>
        by_cases e1 : x6 + 10 ≤ now
        · have HOUT : Hid (outN now L[k] = true) := by unfold Hid; rw [← HX.out]; simp [outN, e1]
          clear no
          have hR' : RefN B wr R (.slice (some ⟨g, 0, none⟩) (expM L now k).length cap) (expM L now k) := by rw [expM_len, ← HN.out]; exact HR.out
          obtain ⟨r, kt, bl⟩ := rn_set hR' hgR HKM.out (c := 7) (by omega) ⟨x0, x1, (x2, x3, x4, x5), x6, false⟩ (.bool false) (by rw [expM_at hkl, ← HX.out]; rfl)
          have hs : (expM L now k).set k ⟨x0, x1, (x2, x3, x4, x5), x6, false⟩ = expM L now (k + 1) := by
            rw [expM_next hkl, HOUT.out, if_pos rfl, ← HX.out]
          rw [hs, expM_len, ← HN.out] at r
          have Hr := hid r
          have Hkt := hid kt
          have Hbl := hid bl
          clear r kt bl hs hR'
          go_upto_region 7 with fail
          refine wp_name ?_
          intro w5 hw5
          have R5 : RefN B w5 R (.slice (some ⟨g, 0, none⟩) n cap) (expM L now (k + 1)) := by rw [hw5]; exact Hr.out
          have K5 : KeptR w w5 := by rw [hw5]; exact HK.out.trans Hkt.out
          have B5 : Below B w w5 := by rw [hw5]; exact HB.out.trans Hbl.out
          have c5 : w5.cell? ⟨g, k * 8, none⟩ = some (.string x0) := by rw [hw5]; exact (World.cell?_setCell_other _ _ _ _ (by intro e; injection e with _ e; omega)).trans q0
          have f5 : ∀ i, w5.frozen? ⟨g, i, none⟩ = false := by rw [hw5]; simpa using hgf
          have O5 : w5.ownsRow w.heap.size 9 1 v5 (expO (L.take k) now).length ((expO (L.take k) now).map (fun x => Value.string x.name)) := rowS_keptR HO.out (by rw [hw5]; exact Hkt.out)
          have r5 : w5.cell? ⟨R, 0, none⟩ = some (.slice (some ⟨g, 0, none⟩) n cap) := (blk_cell R5.2.1 0).trans rfl
          have rf5 := blk_free R5.2.1
          have hlR5 := lt_of_at R5.2.1
          have hg5 : g < w5.heap.size := by rw [hw5]; simpa using hgl
          clear hw5 r0 rf hlR q0 q1 q2 q3 q4 q5 q6 q7 hgl hgf
          obtain ⟨m3, hm3⟩ : ∃ m3, m3 = (expO (L.take k) now).length := ⟨_, rfl⟩
          have hle : m3 ≤ 12 := by rw [hm3]; unfold expO; refine Nat.le_trans (List.length_filter_le _ _) ?_; rw [List.length_take]; have := HN.out; omega
          have hbase : w.heap.size ≤ w5.heap.size := B5.size
          rw [← hm3] at O5
          obtain ⟨A3, cap3, rfl⟩ := slice_str O5
          obtain ⟨v8, w8, happ, hown8, hg8⟩ := app_str O5 (by omega) hbase x0
          have HAPP := hid happ
          have y8 : KeptY (w5.alloc (.cells #[.string x0] 9)) w8 := KeptY.of_app (O5.alloc _) hg8
          have ba : Below w5.heap.size w5 (w5.alloc (.cells #[.string x0] 9)) := below_alloc (Below.refl _ _) _
          have HN8 : Hid (w8.ownsRow w.heap.size 9 1 v8 (expO (L.take (k + 1)) now).length ((expO (L.take (k + 1)) now).map (fun x => Value.string x.name))) := by
            unfold Hid
            rw [expO_next hkl, HOUT.out, if_pos rfl, List.length_append, ← hm3, List.map_append, ← HX.out]
            exact hown8
          have HR8 : Hid (RefN B w8 R (.slice (some ⟨g, 0, none⟩) n cap) (expM L now (k + 1))) := (R5.below ba).keptY y8
          have HB8 : Hid (Below B w w8) := (B5.alloc (Nat.le_trans hBH.out hbase) _).grown hg8 (by have := hBH.out; simp; omega) (fun j e => Nat.le_trans hBH.out (O5.lt j e).1)
          have HK8 : Hid (KeptR w w8) := (K5.trans (keptR_below ba)).step hg8 (fun j e => (O5.lt j e).1)
          clear happ hown8 hg8 hm3 O5 y8 ba R5 K5 B5 hbase
          go_wp2_with (first | (at_builtin; refine wpList_append_eq rfl _ _ _ rfl rfl rfl HAPP.out ?_))
          go_roundw
          case rel => exact ⟨k + 1, v8, HK1.out, rfl, by go_num, HR8, HN8, HB8, HK8⟩
          case measure => have := HM1.out; simp [intOf]; omega
        · have HNO := hid (no (by rw [← HX.out]; simp [outN, e1]))
          clear no
          go_wp2
          go_roundw
          case rel => exact ⟨k + 1, v5, HK1.out, rfl, by go_num, HNO.out.1, HNO.out.2, HB, HK⟩
          case measure => have := HM1.out; simp [intOf]; omega
    · obtain rfl : k = n := by omega
      have hM : expM L now k = expL L now := by unfold expM; rw [HN.out, List.take_length, List.drop_length, List.append_nil]
      have HF : Hid (wr.ownsRow w.heap.size 9 1 v5 (expO L now).length ((expO L now).map (fun x => Value.string x.name)) ∧ RnPost B w wr R (expL L now)) := by
        have h1 := HO.out
        rw [HN.out, List.take_length] at h1
        exact ⟨h1, ⟨_, by have := HR.out; rwa [hM] at this⟩, HB.out, HK.out⟩
      clear hM R3
      go_wp2
      go_ret
      exact ⟨_, rfl, HF.out⟩
end Go.Proofs.Ytkplhobiciddoaa
