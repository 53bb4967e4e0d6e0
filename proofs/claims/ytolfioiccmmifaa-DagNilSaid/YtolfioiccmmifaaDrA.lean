/- Chapter 12's reference graph in memory: a list of jobs; find, Parents. -/
import Derived.Test.YtolfioiccmmifaaDyE
namespace Go.Proofs.Ytolfioiccmmifaa
open Go.RowKit
/-- A job's cells. -/
def cellJ (P : Nat → Value) (G : Gr) (x : Nat) : Nat → Value
  | 0 => .int .i64 (x : Nat)
  | 1 => P x
  | _ => .int .i64 (G.st x : Nat)
def flatJ (P : Nat → Value) (G : Gr) (J : List Nat) : List Value := (List.range (J.length * 3)).map (fun j => cellJ P G (J.getD (j / 3) 0) (j % 3))
theorem flatJ_length (P : Nat → Value) (G : Gr) (J : List Nat) : (flatJ P G J).length = J.length * 3 := by simp [flatJ]
theorem flatJ_at {P : Nat → Value} {G : Gr} {J : List Nat} {i c x : Nat} (hi : J[i]? = some x) (hc : c < 3) : (flatJ P G J)[i * 3 + c]? = some (cellJ P G x c) := by
  obtain ⟨hl, e⟩ := getq hi
  unfold flatJ
  rw [List.getElem?_map, List.getElem?_range (by omega)]
  show some (cellJ P G (J.getD ((i * 3 + c) / 3) 0) ((i * 3 + c) % 3)) = _
  rw [show (i * 3 + c) / 3 = i by omega, show (i * 3 + c) % 3 = c by omega, List.getD_eq_getElem?_getD, hi]
  rfl
theorem flatJ_ext {P : Nat → Value} {G : Gr} {J : List Nat} {l : List Value} (hl : l.length = J.length * 3) (h : ∀ i x, J[i]? = some x → ∀ c, c < 3 → l[i * 3 + c]? = some (cellJ P G x c)) : l = flatJ P G J := by
  refine List.ext_getElem? fun j => ?_
  by_cases hj : j < J.length * 3
  · have hx : J[j / 3]? = some J[j / 3] := List.getElem?_eq_getElem (by omega)
    have h1 := h _ _ hx (j % 3) (by omega)
    have h2 := flatJ_at (P := P) (G := G) hx (c := j % 3) (by omega)
    rw [show j / 3 * 3 + j % 3 = j by omega] at h1 h2
    rw [h1, h2]
  · rw [List.getElem?_eq_none (by omega), List.getElem?_eq_none (by rw [flatJ_length]; omega)]
/-- The reference's graph: J are its jobs, P their parents' slices. -/
structure RefJ (B : Nat) (w : World) (H : Nat) (v : Value) (P : Nat → Value) (G : Gr) (J : List Nat) : Prop where
  hB : B ≤ H
  blk : w.heap[H]? = some (.cells #[v] 45 (0, 0))
  row : w.ownsRow B 65 3 v J.length (flatJ P G J)
  par : ∀ x ∈ J, w.ownsRow B 2 1 (P x) (G.pa x).length (rowD (G.pa x))
variable {B H g cap : Nat} {w w' : World} {P P' : Nat → Value} {G G' : Gr} {J J' : List Nat} {v : Value}
def FootW (H : Nat) (v : Value) (k : Nat) : Prop := k = H ∨ v.ownBlock = some k
theorem RefJ.ltH (h : RefJ B w H v P G J) : H < w.heap.size := lt_of_at h.blk
theorem RefJ.le (h : RefJ B w H v P G J) : B ≤ w.heap.size := Nat.le_trans h.hB (Nat.le_of_lt h.ltH)
theorem RefJ.at (h : RefJ B w H v P G J) (e : ∀ k, FootW H v k → w'.heap[k]? = w.heap[k]?) (e2 : ∀ x ∈ J, ∀ k, (P x).ownBlock = some k → w'.heap[k]? = w.heap[k]?) : RefJ B w' H v P G J :=
  ⟨h.hB, (e H (.inl rfl)).trans h.blk, rowN_kept h.row fun k hk => e k (.inr hk), fun x hx => rowN_kept (h.par x hx) fun k hk => e2 x hx k hk⟩
theorem RefJ.below (h : RefJ B w H v P G J) (hb : Below w.heap.size w w') : RefJ B w' H v P G J := h.at (fun k hk => hb.block k (by
  rcases hk with rfl | e
  · exact h.ltH
  · exact (h.row.lt k e).2)) fun x hx k hk => hb.block k ((h.par x hx).lt k hk).2
/-- Its cells, where it has jobs. -/
theorem RefJ.open_ (h : RefJ B w H v P G J) (hm : 0 < J.length) : ∃ g cap, v = .slice (some ⟨g, 0, none⟩) J.length cap ∧ g ≠ H ∧ g < w.heap.size ∧ (∀ o, w.frozen? ⟨g, o, none⟩ = false) ∧ ∀ i x, J[i]? = some x → w.cell? ⟨g, i * 3, none⟩ = some (.int .i64 (x : Nat)) ∧ w.cell? ⟨g, i * 3 + 1, none⟩ = some (P x) ∧ w.cell? ⟨g, i * 3 + 2, none⟩ = some (.int .i64 (G.st x : Nat)) := by
  obtain ⟨g, cap, e, -⟩ := h.row.form hm
  subst e
  obtain ⟨-, ⟨h3, -⟩ | ⟨g', cap', cur, h3, hg, hh, -, -, -, ht⟩⟩ := h.row
  · cases h3
  · cases h3
    refine ⟨g, cap, rfl, fun e => ?_, lt_of_at hh, blk_free hh, fun i x hi => ?_⟩
    · rw [e, h.blk] at hh
      injection hh with hh
      injection hh with _ h5
      exact absurd h5 (by decide)
    · have key : ∀ c, c < 3 → w.cell? ⟨g, i * 3 + c, none⟩ = some (cellJ P G x c) := fun c hc => by
        rw [blk_cell hh]
        have := flatJ_at (P := P) (G := G) hi hc
        rw [← ht, List.getElem?_take] at this
        split at this
        · simpa using this
        · cases this
      exact ⟨key 0 (by omega), key 1 (by omega), key 2 (by omega)⟩
theorem RefJ.head (h : RefJ B w H v P G J) : w.cell? ⟨H, 0, none⟩ = some v ∧ (∀ o, w.frozen? ⟨H, o, none⟩ = false) ∧ ∃ A cap, v = .slice A J.length cap := by
  refine ⟨(blk_cell h.blk 0).trans rfl, blk_free h.blk, ?_⟩
  exact row_shape h.row
/-- What find answers. -/
def FindP (J : List Nat) (x k : Int) : Prop := (∃ i y : Nat, k = (i : Int) ∧ J[i]? = some y ∧ x = (y : Int)) ∨ (k = -1 ∧ ∀ y ∈ J, ((y : Nat) : Int) ≠ x)
set_option maxRecDepth 20000 in
set_option maxHeartbeats 4000000 in
theorem find_g (h : RefJ B w H v P G J) (hm : J.length ≤ 1000) (x : Int) : Calls Try.prog 32 #[.pointer (some ⟨H, 0, none⟩), .int .i64 x] w fun e w' =>
    (∃ k : Int, e = .returned (.int .i64 k) ∧ FindP J x k) ∧ Below w.heap.size w w' := by
  have HV := hid h
  have hl := h.ltH
  obtain ⟨m, hme⟩ : ∃ m, m = J.length := ⟨_, rfl⟩
  have HME := hid hme
  have hmb : (m : Int) ≤ 1000 := by omega
  clear h hm hme
  go_enter Try.func32, Try.ntmps32
  go_wp2_with fail
  go_loopw [5] (fun iv wr => ∃ i : Nat, i ≤ m ∧ iv = .int .i64 i ∧ Hid (∀ j y, j < i → J[j]? = some y → ((y : Nat) : Int) ≠ x) ∧ Below w.heap.size w wr) (fun iv _ => m - (intOf iv).toNat)
  case atStart => exact ⟨0, Nat.zero_le _, rfl, hid (fun j y hj => by omega), (by repeat (first | with_reducible assumption | with_reducible exact Below.refl _ _ | with_reducible refine Below.drew ?_ | with_reducible refine below_drewN ?_ _ | with_reducible refine below_alloc ?_ _ | with_reducible refine Below.alloc ?_ (by first | omega | (simp; done) | (simp; omega)) _ | with_reducible refine Below.setCell ?_ (by first | omega | (simp; done) | (simp; omega)) _ | with_reducible refine below_setRow ?_ (by first | omega | (simp; done) | (simp; omega)) _))⟩
  case round =>
    obtain ⟨i, hi, rfl, HA, hb⟩ := hrel
    have HB := hid hb
    have hl2 : H < wr.heap.size := Nat.lt_of_lt_of_le hl hb.size
    obtain ⟨c0, cf, A, cap, rfl⟩ := (HV.out.below hb).head
    rw [← HME.out] at c0
    by_cases hin : i < m
    · have HK1 : Hid (i + 1 ≤ m) := hin
      have HMS : Hid (m - (i + 1) < m - i) := by unfold Hid; omega
      have hii : (i : Int) < (m : Int) := by omega
      obtain ⟨g, cap2, e, hgH, hgl, gf, hc⟩ := (HV.out.below hb).open_ (by have := HME.out; omega)
      injection e with e1 e2 e3
      subst e1 e3
      obtain ⟨y, hy⟩ : ∃ y, J[i]? = some y := ⟨_, List.getElem?_eq_getElem (by have := HME.out; omega)⟩
      have HY := hid hy
      obtain ⟨y0, -, -⟩ := hc i y hy
      clear hc hy hin hi hb
      by_cases h1 : ((y : Nat) : Int) = x
      · subst h1
        go_wp2
        go_ret
        exact ⟨⟨_, rfl, .inl ⟨i, y, rfl, HY.out, rfl⟩⟩, HB.out⟩
      · have hne : (((y : Nat) : Int) == x) = false := by simpa using h1
        have HA2 : Hid (∀ j y, j < i + 1 → J[j]? = some y → ((y : Nat) : Int) ≠ x) := fun j z hj hz => by
          by_cases q : j = i
          · subst q
            have := HY.out
            rw [hz] at this
            injection this with this
            rw [this]; exact h1
          · exact HA.out j z (by omega) hz
        clear h1
        go_wp2
        go_roundw
        case rel => exact ⟨i + 1, HK1.out, by go_num, HA2, HB.out⟩
        case measure => have := HMS.out; simp [intOf]; omega
    · have hii : ¬ (i : Int) < (m : Int) := by omega
      have F : Hid (∀ y ∈ J, ((y : Nat) : Int) ≠ x) := fun y hy => by
        obtain ⟨j, hj, rfl⟩ := List.mem_iff_getElem.1 hy
        exact HA.out j _ (by have := HME.out; omega) (List.getElem?_eq_getElem hj)
      clear hi hin hb
      go_wp2
      go_ret
      exact ⟨⟨_, rfl, .inr ⟨rfl, F.out⟩⟩, HB.out⟩
theorem nodup_at {i j x : Nat} (hn : J.Nodup) (hi : J[i]? = some x) (hj : J[j]? = some x) : i = j := by
  obtain ⟨a, b⟩ := getq hi
  obtain ⟨c, d⟩ := getq hj
  exact (List.getElem_inj hn).1 (b.trans d.symm)
theorem find_yes {i x : Nat} (h : RefJ B w H v P G J) (hm : J.length ≤ 1000) (hn : J.Nodup) (hx : J[i]? = some x) : Calls Try.prog 32 #[.pointer (some ⟨H, 0, none⟩), .int .i64 x] w fun e w' => e = .returned (.int .i64 i) ∧ Below w.heap.size w w' := by
  refine (find_g h hm x).mono ?_
  rintro e w' ⟨⟨k, rfl, ⟨j, y, rfl, hj, e⟩ | ⟨-, hno⟩⟩, hb⟩
  · have e2 : y = x := by omega
    subst e2
    rw [nodup_at hn hx hj]
    exact ⟨rfl, hb⟩
  · exact absurd rfl (hno x (List.mem_of_getElem? hx))
theorem find_no {x : Int} (h : RefJ B w H v P G J) (hm : J.length ≤ 1000) (hx : ∀ y ∈ J, ((y : Nat) : Int) ≠ x) : Calls Try.prog 32 #[.pointer (some ⟨H, 0, none⟩), .int .i64 x] w fun e w' => e = .returned (.int .i64 (-1)) ∧ Below w.heap.size w w' := by
  refine (find_g h hm x).mono ?_
  rintro e w' ⟨⟨k, rfl, ⟨j, y, rfl, hj, e⟩ | ⟨rfl, hno⟩⟩, hb⟩
  · exact absurd e.symm (hx y (List.mem_of_getElem? hj))
  · exact ⟨rfl, hb⟩
/-- Parents. -/
theorem rparents_no {x : Int} (h : RefJ B w H v P G J) (hm : J.length ≤ 1000) (hx : ∀ y ∈ J, ((y : Nat) : Int) ≠ x) : Calls Try.prog 22 #[.pointer (some ⟨H, 0, none⟩), .int .i64 x] w fun e w' => e = .returned (.tuple #[.slice none 0 0, .int .i64 3]) ∧ Below w.heap.size w w' := by
  have HF := hid (find_no h hm hx)
  have hl := h.ltH
  clear h hm hx
  go_enter Try.func22, Try.ntmps22
  go_wp2_with fail
  refine HF.out.mono ?_
  rintro e w1 ⟨rfl, hb1⟩
  have HB1 := hid hb1
  go_wp2
  go_ret2
  exact ⟨rfl, HB1.out⟩
theorem rparents_yes {x : Nat} (h : RefJ B w H v P G J) (hm : J.length ≤ 1000) (hn : J.Nodup) (hx : x ∈ J) : Calls Try.prog 22 #[.pointer (some ⟨H, 0, none⟩), .int .i64 x] w fun e w' => e = .returned (.tuple #[P x, .int .i64 0]) ∧ Below w.heap.size w w' := by
  obtain ⟨i, hi, e⟩ := List.mem_iff_getElem.1 hx
  have hxi : J[i]? = some x := by rw [List.getElem?_eq_getElem hi, e]
  have HF := hid (find_yes h hm hn hxi)
  have HV := hid h
  have hl := h.ltH
  have HI := hid hxi
  obtain ⟨m, hme⟩ : ∃ m, m = J.length := ⟨_, rfl⟩
  have HME := hid hme
  have hii : (i : Int) < (m : Int) := by omega
  have hmb : (m : Int) ≤ 1000 := by omega
  obtain ⟨A2, c2, hp⟩ := row_shape (h.par x hx)
  have HP := hid hp
  obtain ⟨n2, hn2⟩ : ∃ n2, n2 = (G.pa x).length := ⟨_, rfl⟩
  rw [← hn2] at HP hp
  rw [hp]
  clear h hm hx hxi hme hp hn2
  go_enter Try.func22, Try.ntmps22
  go_wp2_with fail
  refine HF.out.mono ?_
  rintro e w1 ⟨rfl, hb1⟩
  have HB1 := hid hb1
  have h1 := HV.out.below hb1
  have hl1 : H < w1.heap.size := Nat.lt_of_lt_of_le hl hb1.size
  obtain ⟨c0, cf, A, cap, rfl⟩ := h1.head
  rw [← HME.out] at c0
  obtain ⟨g, cap2, e, hgH, hgl, gf, hc⟩ := h1.open_ (by have := HME.out; omega)
  injection e with e1 e2 e3
  subst e1 e3
  obtain ⟨-, y1, -⟩ := hc i x HI.out
  rw [HP.out] at y1
  clear hc h1 hb1
  go_wp2
  go_ret2
  exact ⟨rfl, HB1.out⟩
end Go.Proofs.Ytolfioiccmmifaa
