/- Chapter 12's reference graph: Put. -/
import Derived.Test.YtolfioiccmmifaaDrB
namespace Go.Proofs.Ytolfioiccmmifaa
open Go.RowKit
variable {w w' : World}
/-- A row in which place k is free to be written. -/
def gapZ (zs : List Int) (k : Nat) (u : Int) : List Int := zs.take k ++ u :: zs.drop k
theorem gapZ_len {zs : List Int} {k : Nat} {u : Int} (hk : k ≤ zs.length) : (gapZ zs k u).length = zs.length + 1 := by
  unfold gapZ; simp; omega
theorem gapZ_all (zs : List Int) (u : Int) : gapZ zs zs.length u = zs ++ [u] := by unfold gapZ; simp
theorem gapZ_lo {zs : List Int} {k j : Nat} {u : Int} (hk : k ≤ zs.length) (hj : j < k) : (gapZ zs k u).getD j 0 = zs.getD j 0 := by
  unfold gapZ
  rw [List.getD_eq_getElem?_getD, List.getElem?_append_left (by simp; omega), List.getElem?_take_of_lt hj, List.getD_eq_getElem?_getD]
theorem gapZ_set {zs : List Int} {k : Nat} {u z : Int} (hk : k ≤ zs.length) : (gapZ zs k u).set k z = gapZ zs k z := by
  unfold gapZ
  rw [List.set_append_right _ _ (by simp; omega)]
  congr 1
  rw [show k - (zs.take k).length = 0 by simp; omega]
  rfl
theorem gapZ_next {zs : List Int} {k : Nat} (hk : k + 1 ≤ zs.length) : gapZ zs (k + 1) (zs.getD k 0) = gapZ zs k (zs.getD k 0) := by
  unfold gapZ
  have e : zs[k]? = some (zs.getD k 0) := by rw [List.getD_eq_getElem?_getD, List.getElem?_eq_getElem (by omega)]; rfl
  rw [List.take_add_one, e]
  have e2 : zs.drop k = zs.getD k 0 :: zs.drop (k + 1) := by
    rw [List.drop_eq_getElem_cons (by omega)]
    congr 1
    rw [List.getD_eq_getElem?_getD, List.getElem?_eq_getElem (by omega)]; rfl
  rw [e2]
  simp
theorem gapZ_rise {zs : List Int} {k : Nat} {x : Int} (hs : zs.Pairwise (· < ·)) (hk : k ≤ zs.length) (hlo : k = 0 ∨ zs.getD (k - 1) 0 < x) (hhi : ∀ z ∈ zs.drop k, x < z) : (gapZ zs k x).Pairwise (· < ·) := by
  have hz : ∀ z ∈ zs.take k, z < x := fun z hz => by
    obtain ⟨i, hi, rfl⟩ := List.mem_iff_getElem.1 hz
    rw [List.length_take] at hi
    rw [List.getElem_take]
    rcases hlo with q | q
    · omega
    · rw [List.getD_eq_getElem?_getD, List.getElem?_eq_getElem (by omega)] at q
      simp only [Option.getD_some] at q
      by_cases e : i = k - 1
      · subst e; exact q
      · have := List.pairwise_iff_getElem.1 hs i (k - 1) (by omega) (by omega) (by omega)
        omega
  unfold gapZ
  rw [List.pairwise_append]
  refine ⟨hs.sublist (List.take_sublist _ _), List.pairwise_cons.2 ⟨hhi, hs.sublist (List.drop_sublist _ _)⟩, fun a ha c hc => ?_⟩
  rw [List.mem_cons] at hc
  rcases hc with rfl | hc
  · exact hz a ha
  · have h1 := hz a ha; have h2 := hhi c hc; omega
theorem gapZ_mem {zs : List Int} {k : Nat} {x z : Int} : z ∈ gapZ zs k x ↔ z ∈ zs ∨ z = x := by
  unfold gapZ
  rw [List.mem_append, List.mem_cons]
  have : z ∈ zs ↔ z ∈ zs.take k ∨ z ∈ zs.drop k := by rw [← List.mem_append, List.take_append_drop]
  rw [this]
  constructor
  · rintro (h | h | h)
    · exact .inl (.inl h)
    · exact .inr h
    · exact .inl (.inr h)
  · rintro ((h | h) | h)
    · exact .inl h
    · exact .inr (.inr h)
    · exact .inr (.inl h)
theorem slz_own {b n cap : Nat} {A : Option Addr} {zs : List Int} (h : w.ownsRow b 2 1 (.slice A n cap) n (rowZ zs)) : zs.length = n := by
  have := h.1; simpa using this
/-- What Put leaves. -/
def PutP (b : Nat) (w : World) (zs : List Int) (x : Int) (v' : Value) (w' : World) : Prop :=
  ∃ zs', w'.ownsRow b 2 1 v' zs'.length (rowZ zs') ∧ zs'.Pairwise (· < ·) ∧ (∀ z, z ∈ zs' ↔ z ∈ zs ∨ z = x) ∧ zs'.length ≤ zs.length + 1 ∧ Below b w w'
set_option maxRecDepth 20000 in
set_option maxHeartbeats 8000000 in
theorem put_g {b cap m : Nat} {A : Option Addr} {zs : List Int} (ho : w.ownsRow b 2 1 (.slice A m cap) m (rowZ zs)) (hs : zs.Pairwise (· < ·)) (hm : m ≤ 1000) (hb : b ≤ w.heap.size) (x : Int) :
    Calls Try.prog 33 #[.slice A m cap, .int .i64 x] w fun e w' => ∃ v', e = .returned v' ∧ PutP b w zs x v' w' := by
  have hlen := slz_own ho
  have HLEN := hid hlen
  have HIN := hid (in_any (cap := cap) x (slz_row ho) (by omega))
  have HS := hid hs
  have hmb : (m : Int) ≤ 1000 := by omega
  by_cases hx : x ∈ zs
  · rw [decide_eq_true hx] at HIN
    have FIN : Hid (PutP b w zs x (.slice A m cap) w) := ⟨zs, by rw [hlen]; exact ho, hs, fun z => ⟨.inl, fun q => by
      rcases q with q | rfl
      · exact q
      · exact hx⟩, by omega, Below.refl _ _⟩
    clear ho hs hm hb hlen hx
    go_enter Try.func33, Try.ntmps33
    go_wp2_with fail
    refine HIN.out.mono ?_
    rintro e w1 ⟨rfl, rfl⟩
    go_wp2
    go_ret
    exact ⟨_, rfl, FIN.out⟩
  · rw [decide_eq_false hx] at HIN
    have hb0 : Below w.heap.size w (w.alloc (.cells #[.int .i64 x] 2)) := (by repeat (first | with_reducible assumption | with_reducible exact Below.refl _ _ | with_reducible refine Below.drew ?_ | with_reducible refine below_drewN ?_ _ | with_reducible refine below_alloc ?_ _ | with_reducible refine Below.alloc ?_ (by first | omega | (simp; done) | (simp; omega)) _ | with_reducible refine Below.setCell ?_ (by first | omega | (simp; done) | (simp; omega)) _ | with_reducible refine below_setRow ?_ (by first | omega | (simp; done) | (simp; omega)) _))
    have ha : (w.alloc (.cells #[.int .i64 x] 2)).heap[w.heap.size]? = some (.cells #[.int .i64 x] 2 (0, 0)) := alloc_at w _
    obtain ⟨A', cap', w2, happ, hown, hG, hat⟩ := app_src (cap2 := 1) (rowN_kept ho fun k hk => hb0.block k (ho.lt k hk).2) (slz_one ha) (by omega) (Nat.le_trans hb hb0.size)
    have hB2 : Below b w w2 := by
      have t : Tur (fun g => (Value.slice A m cap).ownBlock = some g) w w2 := (Tur.of_below hb0).then (Tur.of_grown hG (fun g hg => .inl hg))
      exact t.below hb (fun g hg => (ho.lt g hg).1)
    obtain ⟨g, cap3, e, hbg, hgl, -, -⟩ := getD_row hown (by omega)
    injection e with e1 e2 e3
    subst e1 e3
    have HAPP := hid happ
    have HRO : Hid (w2.ownsRow b 2 1 (.slice (some ⟨g, 0, none⟩) (m + 1) cap') (m + 1) (rowZ (gapZ zs m x)) ∧ (∀ z ∈ zs.drop m, x < z) ∧ Below b w w2) := by
      refine ⟨?_, fun z hz => ?_, hB2⟩
      · rw [show gapZ zs m x = zs ++ [x] by rw [← hlen]; exact gapZ_all zs x]; exact hown
      · rw [List.drop_eq_nil_of_le (by omega)] at hz; cases hz
    have HX := hid hx
    have HBG := hid hbg
    clear ho hs hm hb hlen hx happ hown hG hat hB2 ha hb0 hgl
    go_enter Try.func33, Try.ntmps33
    go_wp2_with fail
    refine HIN.out.mono ?_
    rintro e w1 ⟨rfl, rfl⟩
    clear HIN
    go_wp2_with (first | (at_builtin; refine wpList_append_eq rfl _ _ _ rfl rfl rfl HAPP.out ?_))
    go_loopw [5] (fun iv wr => ∃ (k : Nat) (u : Int), k ≤ m ∧ iv = .int .i64 k ∧ Hid (wr.ownsRow b 2 1 (.slice (some ⟨g, 0, none⟩) (m + 1) cap') (m + 1) (rowZ (gapZ zs k u)) ∧ (∀ z ∈ zs.drop k, x < z) ∧ Below b w wr)) (fun iv _ => (intOf iv).toNat)
    case atStart => exact ⟨m, x, Nat.le_refl _, by go_num, HRO⟩
    case round =>
      clear HRO HAPP
      obtain ⟨k, u, hk, rfl, HK⟩ := hrel
      have HKM := hid hk
      obtain ⟨g', c', e, -, hgl, gf, hc⟩ := getD_row HK.out.1 (by omega)
      injection e with e1 e2 e3
      injection e1 with e1
      injection e1 with e1
      subst e1 e3
      have hkm : (k : Int) ≤ (m : Int) := by omega
      have ck := hc k (by omega)
      obtain ⟨tv, htv⟩ : ∃ tv, tv = (gapZ zs k u).getD k 0 := ⟨_, rfl⟩
      rw [← htv] at ck
      clear htv
      have FIN : k = 0 ∨ zs.getD (k - 1) 0 < x → Hid (PutP b w zs x (.slice (some ⟨g, 0, none⟩) (m + 1) cap') (wr.setCell ⟨g, k, none⟩ (.int .i64 x))) := fun hlo => by
        have hkl : k ≤ zs.length := by rw [HLEN.out]; exact HKM.out
        have hst := (HK.out.1.stored k (.int .i64 x)).1
        have e4 : (rowZ (gapZ zs k u)).set k (.int .i64 x) = rowZ (gapZ zs k x) := by
          rw [← gapZ_set (u := u) (z := x) hkl]
          unfold rowZ
          rw [List.map_set]
        rw [e4] at hst
        refine ⟨gapZ zs k x, ?_, gapZ_rise HS.out hkl hlo HK.out.2.1, fun z => gapZ_mem, by rw [gapZ_len hkl]; omega, HK.out.2.2.setCell HBG.out _⟩
        rw [gapZ_len hkl, HLEN.out]
        exact hst
      by_cases hk0 : k = 0
      · subst hk0
        have F := FIN (.inl rfl)
        clear FIN hc hk
        go_wp2
        go_ret
        exact ⟨_, rfl, F.out⟩
      · obtain ⟨k', rfl⟩ : ∃ k', k = k' + 1 := ⟨k - 1, by omega⟩
        have hkl : k' + 1 ≤ zs.length := by rw [HLEN.out]; exact HKM.out
        have c1 := hc k' (by omega)
        rw [gapZ_lo hkl (by omega)] at c1
        obtain ⟨z, hz⟩ : ∃ z, z = zs.getD k' 0 := ⟨_, rfl⟩
        rw [← hz] at c1
        have hmem : z ∈ zs := by
          rw [hz, List.getD_eq_getElem?_getD, List.getElem?_eq_getElem (by omega)]
          exact List.getElem_mem _
        rw [show k' + 1 - 1 = k' by omega, ← hz] at FIN
        have hkp : (0 : Int) < ((k' + 1 : Nat) : Int) := by omega
        have hka : ((k' + 1 : Nat) : Int) = (k' : Int) + 1 := by omega
        by_cases hzx : x < z
        · have HK2 : Hid ((wr.setCell ⟨g, k' + 1, none⟩ (.int .i64 z)).ownsRow b 2 1 (.slice (some ⟨g, 0, none⟩) (m + 1) cap') (m + 1) (rowZ (gapZ zs k' z)) ∧ (∀ y ∈ zs.drop k', x < y) ∧ Below b w (wr.setCell ⟨g, k' + 1, none⟩ (.int .i64 z))) := by
            have hst := (HK.out.1.stored (k' + 1) (.int .i64 z)).1
            have e4 : (rowZ (gapZ zs (k' + 1) u)).set (k' + 1) (.int .i64 z) = rowZ (gapZ zs k' z) := by
              have := gapZ_next hkl
              rw [← hz] at this
              rw [← this, ← gapZ_set (u := u) (z := z) hkl]
              unfold rowZ
              rw [List.map_set]
            rw [e4] at hst
            refine ⟨hst, fun y hy => ?_, HK.out.2.2.setCell HBG.out _⟩
            rw [List.drop_eq_getElem_cons (by omega), List.mem_cons] at hy
            rcases hy with rfl | hy
            · rw [hz, List.getD_eq_getElem?_getD, List.getElem?_eq_getElem (by omega)] at hzx
              exact hzx
            · exact HK.out.2.1 y hy
          clear FIN hc hk hz hmem hkl hk0
          go_wp2
          go_roundw
          case rel => exact ⟨k', z, by omega, by go_num, HK2⟩
          case measure => simp [intOf]
        · have F := FIN (.inr (by
            have : z ≠ x := fun q => HX.out (q ▸ hmem)
            omega))
          clear FIN hc hk hz hmem hkl hk0
          go_wp2
          go_ret
          exact ⟨_, rfl, F.out⟩
end Go.Proofs.Ytolfioiccmmifaa
