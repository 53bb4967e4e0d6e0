/- Chapter 20: the program's reader: vector. -/
import Derived.Test.YtidcbcljeofooaaGreatDoorOrS
namespace Go.Proofs.YtidcbcljeofooaaGreatDoor
open Go.RowKit
theorem Rdr.blk {R : Nat} {b : Bool} {w w' : World} (h : Rdr R b w w') {k : Nat} {o : Obj} (hk : w.heap[k]? = some o) (hn : k ≠ R) : w'.heap[k]? = some o := (h.2.block k (lt_of_at hk) (fun e => hn (by injection e))).trans hk
theorem Rdr.cell {R : Nat} {b : Bool} {w w' : World} (h : Rdr R b w w') {k i : Nat} {u : Value} (hk : w.cell? ⟨k, i, none⟩ = some u) (hn : k ≠ R) (hl : k < w.heap.size) : w'.cell? ⟨k, i, none⟩ = some u := by
  rw [← hk]
  unfold World.cell?
  rw [h.2.block k hl (fun e => hn (by injection e))]
theorem Rdr.below {R : Nat} {b b' : Bool} {w w' w'' : World} (h : Rdr R b w w') (hb : Below w'.heap.size w' w'') (hR : w''.heap[R]? = some (.cells #[.bool b'] 63 (0, 0))) : Rdr R b' w w'' := h.trans (rdr_below hb hR)
/-- A store beyond what was there. -/
theorem Rdr.put {R : Nat} {b : Bool} {w w' : World} (h : Rdr R b w w') {k i : Nat} (u : Value) (hk : w.heap.size ≤ k) (hn : k ≠ R) : Rdr R b w (w'.setCell ⟨k, i, none⟩ u) :=
  ⟨(Below.heap_setCell _ _ _ R (fun e => hn e.symm)).trans h.1, h.2.os, h.2.tape, h.2.output, by simpa [World.setCell] using h.2.size, fun j hj hn2 => (Below.heap_setCell _ _ _ j (by show j ≠ k; omega)).trans (h.2.block j hj hn2)⟩
theorem Rdr.on {R : Nat} {b : Bool} {w w' w'' : World} (h : Rdr R b w w') (hR : R < w.heap.size) (hb : Below w.heap.size w' w'') : Rdr R b w w'' :=
  ⟨(hb.block R hR).trans h.1, hb.os.trans h.2.os, hb.tape.trans h.2.tape, hb.output.trans h.2.output, Nat.le_trans h.size hb.size, fun k hk hn => (hb.block k hk).trans (h.2.block k hk hn)⟩
theorem cell_other {w : World} {g i k j : Nat} (u : Value) (h : k ≠ g) : (w.setCell ⟨g, i, none⟩ u).cell? ⟨k, j, none⟩ = w.cell? ⟨k, j, none⟩ := World.cell?_setCell_other _ _ _ _ (by intro e; injection e with e1; exact h (by first | exact e1 | exact e1.symm))
/-- What a vector answers. -/
def VecQ (R : Nat) (bad : Bool) (L : List UInt8) (w : World) (e : Ending) (w' : World) : Prop :=
  ∃ v : V, e = .returned (vv v) ∧ (∀ x, vecP L = some x → v = vI x) ∧ Rdr R (bad || (vecP L).isNone) w w'
theorem vecP_len {L : List UInt8} (h : (spl 58 L).length ≠ 4) : vecP L = none := by
  unfold vecP
  split
  · rename_i a b c d e
    rw [e] at h
    exact absurd rfl h
  · rfl
theorem vecP_none {L : List UInt8} {a b c d : List UInt8} (h : spl 58 L = [a, b, c, d]) (hn : (numP a).isNone || (numP b).isNone || (numP c).isNone || (numP d).isNone = true) : vecP L = none := by
  unfold vecP
  rw [h]
  simp only
  cases ha : numP a with
  | none => rfl
  | some _ =>
    cases hb : numP b with
    | none => rfl
    | some _ =>
      cases hc : numP c with
      | none => rfl
      | some _ =>
        cases hd : numP d with
        | none => rfl
        | some _ => rw [ha, hb, hc, hd] at hn; simp at hn
theorem vecP_flag {L : List UInt8} {a b c d : List UInt8} (h : spl 58 L = [a, b, c, d]) : (vecP L).isNone = ((numP a).isNone || (numP b).isNone || (numP c).isNone || (numP d).isNone) := by
  unfold vecP
  rw [h]
  simp only
  cases numP a <;> cases numP b <;> cases numP c <;> cases numP d <;> rfl
theorem vecP_some {L : List UInt8} {a b c d : List UInt8} {x : Nat × Nat × Nat × Nat} (h : spl 58 L = [a, b, c, d]) (hx : vecP L = some x) : numP a = some x.1 ∧ numP b = some x.2.1 ∧ numP c = some x.2.2.1 ∧ numP d = some x.2.2.2 := by
  unfold vecP at hx
  rw [h] at hx
  simp only at hx
  cases ha : numP a with
  | none => rw [ha] at hx; cases hx
  | some _ =>
    cases hb : numP b with
    | none => rw [ha, hb] at hx; cases hx
    | some _ =>
      cases hc : numP c with
      | none => rw [ha, hb, hc] at hx; cases hx
      | some _ =>
        cases hd : numP d with
        | none => rw [ha, hb, hc, hd] at hx; cases hx
        | some _ => rw [ha, hb, hc, hd] at hx; injection hx with hx; subst hx; exact ⟨rfl, rfl, rfl, rfl⟩
theorem infoV : (Tryz.prog.info? 24).map (·.size) = some 4 := by kernel_rfl
theorem splG_mem_len (c : UInt8) : ∀ (t acc : List UInt8), ∀ x ∈ splG c acc t, x.length ≤ acc.length + t.length := by
  intro t
  induction t with
  | nil => intro acc x hx; simp [splG] at hx; subst hx; simp
  | cons y t ih =>
    intro acc x hx
    unfold splG at hx
    split at hx
    · rw [List.mem_cons] at hx
      rcases hx with rfl | hx
      · simp
      · have := ih [] x hx; simp only [List.length_nil, List.length_cons] at *; omega
    · have := ih _ x hx
      simp only [List.length_append, List.length_cons, List.length_nil] at *
      omega
theorem spl_small {c : UInt8} {s : ByteArray} {x : List UInt8} (h : x ∈ spl c s.data.toList) : x.length ≤ s.size := by
  have := splG_mem_len c s.data.toList [] x h
  have hl : s.data.toList.length = s.size := by simp
  simp only [List.length_nil] at this
  omega
set_option maxHeartbeats 8000000 in
set_option maxRecDepth 20000 in
theorem vector_any (s : ByteArray) (w : World) (R : Nat) (bad : Bool) (hR : w.heap[R]? = some (.cells #[.bool bad] 63 (0, 0))) (hs : s.size ≤ 1048576) :
    Calls Tryz.prog 55 #[.pointer (some ⟨R, 0, none⟩), .string s] w (VecQ R bad s.data.toList w) := by
  have HR := hid hR
  have HS := hid (fun W => split_any 58 s W hs)
  have hsm := fun x hx => spl_small (c := 58) (s := s) (x := x) hx
  have HSM := hid hsm
  have HSZ := hid hs
  clear hR hs hsm
  have hlr : R < w.heap.size := lt_of_at HR.out
  go_enter Tryz.func55, Tryz.ntmps55
  go_wp2_with fail
  refine (HS.out _).mono ?_
  rintro e w1 ⟨n, hn, rfl, hsz1, hc1, hb1⟩
  clear HS
  simp only [World.size_alloc] at hsz1 hc1 hb1
  have R1 : w1.heap[R]? = some (.cells #[.bool bad] 63 (0, 0)) := by
    refine (hb1.block R (by omega)).trans ?_
    have h0 := HR.out
    exact (by (repeat (first | (with_reducible assumption) | (with_reducible exact alloc_at _ _) | ((with_reducible apply alloc_at'); (simp; done)) | (with_reducible apply alloc_at_lt) | (with_reducible apply heap_drew_at) | (with_reducible apply heap_drewN_at) | (with_reducible apply heap_setCell_same) | ((with_reducible apply heap_set_ne); (first | omega | (dsimp only; omega) | (simp; done) | (simp; omega))) | (with_reducible apply setRow_at) | ((with_reducible apply setRow_ne); (first | omega | (dsimp only; omega) | (simp; done) | (simp; omega))))))
  have V1 : w1.heap[w.heap.size + 1]? = some (.cells #[.int .i64 0, .int .i64 0, .int .i64 0, .int .i64 0] 24 (0, 0)) := (hb1.block _ (by omega)).trans (by (repeat (first | (with_reducible assumption) | (with_reducible exact alloc_at _ _) | ((with_reducible apply alloc_at'); (simp; done)) | (with_reducible apply alloc_at_lt) | (with_reducible apply heap_drew_at) | (with_reducible apply heap_drewN_at) | (with_reducible apply heap_setCell_same) | ((with_reducible apply heap_set_ne); (first | omega | (dsimp only; omega) | (simp; done) | (simp; omega))) | (with_reducible apply setRow_at) | ((with_reducible apply setRow_ne); (first | omega | (dsimp only; omega) | (simp; done) | (simp; omega))))))
  have O1 : w1.heap[w.heap.size]? = some (.cells #[.int .i64 0, .int .i64 0, .int .i64 0, .int .i64 0] 24 (0, 0)) := (hb1.block _ (by omega)).trans (by (repeat (first | (with_reducible assumption) | (with_reducible exact alloc_at _ _) | ((with_reducible apply alloc_at'); (simp; done)) | (with_reducible apply alloc_at_lt) | (with_reducible apply heap_drew_at) | (with_reducible apply heap_drewN_at) | (with_reducible apply heap_setCell_same) | ((with_reducible apply heap_set_ne); (first | omega | (dsimp only; omega) | (simp; done) | (simp; omega))) | (with_reducible apply setRow_at) | ((with_reducible apply setRow_ne); (first | omega | (dsimp only; omega) | (simp; done) | (simp; omega))))))
  have D1 : Hid (Rdr R bad w w1) := rdr_below (Below.trans (by repeat (first | with_reducible assumption | with_reducible exact Below.refl _ _ | with_reducible refine Below.drew ?_ | with_reducible refine below_drewN ?_ _ | with_reducible refine below_alloc ?_ _ | with_reducible refine Below.alloc ?_ (by first | omega | (simp; done) | (simp; omega)) _ | with_reducible refine Below.setCell ?_ (by first | omega | (simp; done) | (simp; omega)) _ | with_reducible refine below_setRow ?_ (by first | omega | (simp; done) | (simp; omega)) _)) (hb1.mono (by omega))) R1
  have l1 := lt_of_at V1
  by_cases h4 : n = 4
  · subst h4
    obtain ⟨a, b, c, d, hP⟩ : ∃ a b c d, spl 58 s.data.toList = [a, b, c, d] := by
      match hq : spl 58 s.data.toList, hn with
      | [a, b, c, d], _ => exact ⟨a, b, c, d, rfl⟩
    have HP := hid hP
    rw [hP] at hc1
    have c_a : w1.cell? ⟨w.heap.size + 1 + 1, 0, none⟩ = some (.string ⟨a.toArray⟩) := hc1 0 a rfl
    have s_a : (⟨a.toArray⟩ : ByteArray).size ≤ 1048576 := by
      have h1 := HSM.out a (by rw [hP]; simp)
      have h2 := HSZ.out
      show a.toArray.size ≤ _
      rw [List.size_toArray]; omega
    have c_b : w1.cell? ⟨w.heap.size + 1 + 1, 1, none⟩ = some (.string ⟨b.toArray⟩) := hc1 1 b rfl
    have s_b : (⟨b.toArray⟩ : ByteArray).size ≤ 1048576 := by
      have h1 := HSM.out b (by rw [hP]; simp)
      have h2 := HSZ.out
      show b.toArray.size ≤ _
      rw [List.size_toArray]; omega
    have c_c : w1.cell? ⟨w.heap.size + 1 + 1, 2, none⟩ = some (.string ⟨c.toArray⟩) := hc1 2 c rfl
    have s_c : (⟨c.toArray⟩ : ByteArray).size ≤ 1048576 := by
      have h1 := HSM.out c (by rw [hP]; simp)
      have h2 := HSZ.out
      show c.toArray.size ≤ _
      rw [List.size_toArray]; omega
    have c_d : w1.cell? ⟨w.heap.size + 1 + 1, 3, none⟩ = some (.string ⟨d.toArray⟩) := hc1 3 d rfl
    have s_d : (⟨d.toArray⟩ : ByteArray).size ≤ 1048576 := by
      have h1 := HSM.out d (by rw [hP]; simp)
      have h2 := HSZ.out
      show d.toArray.size ≤ _
      rw [List.size_toArray]; omega
    have hbl : w.heap.size + 1 + 1 < w1.heap.size := hsz1
    clear hc1 hP hn hb1
    go_wp2_with fail
    refine wp_loop_rounds 5 ?_
    rw [rounds_succ]
    go_wp2_with fail
    refine (number_any _ _ R bad R1 s_a).mono ?_
    rintro e w2 ⟨n2, rfl, hn2, hr2⟩
    rw [show (⟨a.toArray⟩ : ByteArray).data.toList = a by simp] at hn2 hr2
    have U2 : w2.heap[w.heap.size + 1]? = some (.cells #[.int .i64 0, .int .i64 0, .int .i64 0, .int .i64 0] 24 (0, 0)) := hr2.blk V1 (by omega)
    have P2 : w2.heap[w.heap.size]? = some (.cells #[.int .i64 0, .int .i64 0, .int .i64 0, .int .i64 0] 24 (0, 0)) := hr2.blk O1 (by omega)
    have c2_b : w2.cell? ⟨w.heap.size + 1 + 1, 1, none⟩ = some (.string ⟨b.toArray⟩) := hr2.cell c_b (by omega) hbl
    have c2_c : w2.cell? ⟨w.heap.size + 1 + 1, 2, none⟩ = some (.string ⟨c.toArray⟩) := hr2.cell c_c (by omega) hbl
    have c2_d : w2.cell? ⟨w.heap.size + 1 + 1, 3, none⟩ = some (.string ⟨d.toArray⟩) := hr2.cell c_d (by omega) hbl
    have l2 := lt_of_at U2
    have hb2 : w.heap.size + 1 + 1 < w2.heap.size := Nat.lt_of_lt_of_le hbl hr2.size
    have f2 := blk_free U2 0
    have e2 : w2.cell? ⟨w.heap.size + 1, 0, none⟩ = some (.int .i64 0) := (blk_cell U2 0).trans rfl
    obtain ⟨x2, hx2⟩ : ∃ x, x = w2.setCell ⟨w.heap.size + 1, 0, none⟩ (.int .i64 n2) := ⟨_, rfl⟩
    have D2 : Hid (Rdr R (bad || (numP a).isNone) w x2) := by rw [hx2]; exact (D1.out.trans hr2).put _ (by omega) (by omega)
    have V2 : x2.heap[w.heap.size + 1]? = some (.cells #[.int .i64 n2, .int .i64 0, .int .i64 0, .int .i64 0] 24 (0, 0)) := by
      rw [hx2]
      have := heap_setCell_same _ _ 0 _ _ (.int .i64 n2) U2
      simpa using this
    have O2 : x2.heap[w.heap.size]? = some (.cells #[.int .i64 0, .int .i64 0, .int .i64 0, .int .i64 0] 24 (0, 0)) := by
      rw [hx2]
      exact (Below.heap_setCell _ _ _ _ (by show w.heap.size ≠ w.heap.size + 1; omega)).trans P2
    have R2 := D2.out.1
    have z2_b : x2.cell? ⟨w.heap.size + 1 + 1, 1, none⟩ = some (.string ⟨b.toArray⟩) := by
      rw [hx2, cell_other _ (by show w.heap.size + 1 + 1 ≠ w.heap.size + 1; omega)]
      exact c2_b
    have z2_c : x2.cell? ⟨w.heap.size + 1 + 1, 2, none⟩ = some (.string ⟨c.toArray⟩) := by
      rw [hx2, cell_other _ (by show w.heap.size + 1 + 1 ≠ w.heap.size + 1; omega)]
      exact c2_c
    have z2_d : x2.cell? ⟨w.heap.size + 1 + 1, 3, none⟩ = some (.string ⟨d.toArray⟩) := by
      rw [hx2, cell_other _ (by show w.heap.size + 1 + 1 ≠ w.heap.size + 1; omega)]
      exact c2_d
    have hbl2 : w.heap.size + 1 + 1 < x2.heap.size := by rw [hx2]; simpa [World.setCell] using hb2
    clear hr2 P2 hb2 c2_b c2_c c2_d
    go_wp2_with fail
    rw [← hx2]
    clear hx2 U2 f2 e2
    rw [rounds_succ]
    go_wp2_with fail
    refine (number_any _ _ R (bad || (numP a).isNone) R2 s_b).mono ?_
    rintro e w3 ⟨n3, rfl, hn3, hr3⟩
    rw [show (⟨b.toArray⟩ : ByteArray).data.toList = b by simp] at hn3 hr3
    have U3 : w3.heap[w.heap.size + 1]? = some (.cells #[.int .i64 n2, .int .i64 0, .int .i64 0, .int .i64 0] 24 (0, 0)) := hr3.blk V2 (by omega)
    have P3 : w3.heap[w.heap.size]? = some (.cells #[.int .i64 0, .int .i64 0, .int .i64 0, .int .i64 0] 24 (0, 0)) := hr3.blk O2 (by omega)
    have c3_c : w3.cell? ⟨w.heap.size + 1 + 1, 2, none⟩ = some (.string ⟨c.toArray⟩) := hr3.cell z2_c (by omega) hbl2
    have c3_d : w3.cell? ⟨w.heap.size + 1 + 1, 3, none⟩ = some (.string ⟨d.toArray⟩) := hr3.cell z2_d (by omega) hbl2
    have l3 := lt_of_at U3
    have hb3 : w.heap.size + 1 + 1 < w3.heap.size := Nat.lt_of_lt_of_le hbl2 hr3.size
    have f3 := blk_free U3 1
    have e3 : w3.cell? ⟨w.heap.size + 1, 1, none⟩ = some (.int .i64 0) := (blk_cell U3 1).trans rfl
    obtain ⟨x3, hx3⟩ : ∃ x, x = w3.setCell ⟨w.heap.size + 1, 1, none⟩ (.int .i64 n3) := ⟨_, rfl⟩
    have D3 : Hid (Rdr R ((bad || (numP a).isNone) || (numP b).isNone) w x3) := by rw [hx3]; exact (D2.out.trans hr3).put _ (by omega) (by omega)
    have V3 : x3.heap[w.heap.size + 1]? = some (.cells #[.int .i64 n2, .int .i64 n3, .int .i64 0, .int .i64 0] 24 (0, 0)) := by
      rw [hx3]
      have := heap_setCell_same _ _ 1 _ _ (.int .i64 n3) U3
      simpa using this
    have O3 : x3.heap[w.heap.size]? = some (.cells #[.int .i64 0, .int .i64 0, .int .i64 0, .int .i64 0] 24 (0, 0)) := by
      rw [hx3]
      exact (Below.heap_setCell _ _ _ _ (by show w.heap.size ≠ w.heap.size + 1; omega)).trans P3
    have R3 := D3.out.1
    have z3_c : x3.cell? ⟨w.heap.size + 1 + 1, 2, none⟩ = some (.string ⟨c.toArray⟩) := by
      rw [hx3, cell_other _ (by show w.heap.size + 1 + 1 ≠ w.heap.size + 1; omega)]
      exact c3_c
    have z3_d : x3.cell? ⟨w.heap.size + 1 + 1, 3, none⟩ = some (.string ⟨d.toArray⟩) := by
      rw [hx3, cell_other _ (by show w.heap.size + 1 + 1 ≠ w.heap.size + 1; omega)]
      exact c3_d
    have hbl3 : w.heap.size + 1 + 1 < x3.heap.size := by rw [hx3]; simpa [World.setCell] using hb3
    clear hr3 P3 hb3 c3_c c3_d
    go_wp2_with fail
    rw [← hx3]
    clear hx3 U3 f3 e3
    rw [rounds_succ]
    go_wp2_with fail
    refine (number_any _ _ R ((bad || (numP a).isNone) || (numP b).isNone) R3 s_c).mono ?_
    rintro e w4 ⟨n4, rfl, hn4, hr4⟩
    rw [show (⟨c.toArray⟩ : ByteArray).data.toList = c by simp] at hn4 hr4
    have U4 : w4.heap[w.heap.size + 1]? = some (.cells #[.int .i64 n2, .int .i64 n3, .int .i64 0, .int .i64 0] 24 (0, 0)) := hr4.blk V3 (by omega)
    have P4 : w4.heap[w.heap.size]? = some (.cells #[.int .i64 0, .int .i64 0, .int .i64 0, .int .i64 0] 24 (0, 0)) := hr4.blk O3 (by omega)
    have c4_d : w4.cell? ⟨w.heap.size + 1 + 1, 3, none⟩ = some (.string ⟨d.toArray⟩) := hr4.cell z3_d (by omega) hbl3
    have l4 := lt_of_at U4
    have hb4 : w.heap.size + 1 + 1 < w4.heap.size := Nat.lt_of_lt_of_le hbl3 hr4.size
    have f4 := blk_free U4 2
    have e4 : w4.cell? ⟨w.heap.size + 1, 2, none⟩ = some (.int .i64 0) := (blk_cell U4 2).trans rfl
    obtain ⟨x4, hx4⟩ : ∃ x, x = w4.setCell ⟨w.heap.size + 1, 2, none⟩ (.int .i64 n4) := ⟨_, rfl⟩
    have D4 : Hid (Rdr R (((bad || (numP a).isNone) || (numP b).isNone) || (numP c).isNone) w x4) := by rw [hx4]; exact (D3.out.trans hr4).put _ (by omega) (by omega)
    have V4 : x4.heap[w.heap.size + 1]? = some (.cells #[.int .i64 n2, .int .i64 n3, .int .i64 n4, .int .i64 0] 24 (0, 0)) := by
      rw [hx4]
      have := heap_setCell_same _ _ 2 _ _ (.int .i64 n4) U4
      simpa using this
    have O4 : x4.heap[w.heap.size]? = some (.cells #[.int .i64 0, .int .i64 0, .int .i64 0, .int .i64 0] 24 (0, 0)) := by
      rw [hx4]
      exact (Below.heap_setCell _ _ _ _ (by show w.heap.size ≠ w.heap.size + 1; omega)).trans P4
    have R4 := D4.out.1
    have z4_d : x4.cell? ⟨w.heap.size + 1 + 1, 3, none⟩ = some (.string ⟨d.toArray⟩) := by
      rw [hx4, cell_other _ (by show w.heap.size + 1 + 1 ≠ w.heap.size + 1; omega)]
      exact c4_d
    have hbl4 : w.heap.size + 1 + 1 < x4.heap.size := by rw [hx4]; simpa [World.setCell] using hb4
    clear hr4 P4 hb4 c4_d
    go_wp2_with fail
    rw [← hx4]
    clear hx4 U4 f4 e4
    rw [rounds_succ]
    go_wp2_with fail
    refine (number_any _ _ R (((bad || (numP a).isNone) || (numP b).isNone) || (numP c).isNone) R4 s_d).mono ?_
    rintro e w5 ⟨n5, rfl, hn5, hr5⟩
    rw [show (⟨d.toArray⟩ : ByteArray).data.toList = d by simp] at hn5 hr5
    have U5 : w5.heap[w.heap.size + 1]? = some (.cells #[.int .i64 n2, .int .i64 n3, .int .i64 n4, .int .i64 0] 24 (0, 0)) := hr5.blk V4 (by omega)
    have P5 : w5.heap[w.heap.size]? = some (.cells #[.int .i64 0, .int .i64 0, .int .i64 0, .int .i64 0] 24 (0, 0)) := hr5.blk O4 (by omega)
    have l5 := lt_of_at U5
    have hb5 : w.heap.size + 1 + 1 < w5.heap.size := Nat.lt_of_lt_of_le hbl4 hr5.size
    have f5 := blk_free U5 3
    have e5 : w5.cell? ⟨w.heap.size + 1, 3, none⟩ = some (.int .i64 0) := (blk_cell U5 3).trans rfl
    obtain ⟨x5, hx5⟩ : ∃ x, x = w5.setCell ⟨w.heap.size + 1, 3, none⟩ (.int .i64 n5) := ⟨_, rfl⟩
    have D5 : Hid (Rdr R ((((bad || (numP a).isNone) || (numP b).isNone) || (numP c).isNone) || (numP d).isNone) w x5) := by rw [hx5]; exact (D4.out.trans hr5).put _ (by omega) (by omega)
    have V5 : x5.heap[w.heap.size + 1]? = some (.cells #[.int .i64 n2, .int .i64 n3, .int .i64 n4, .int .i64 n5] 24 (0, 0)) := by
      rw [hx5]
      have := heap_setCell_same _ _ 3 _ _ (.int .i64 n5) U5
      simpa using this
    have O5 : x5.heap[w.heap.size]? = some (.cells #[.int .i64 0, .int .i64 0, .int .i64 0, .int .i64 0] 24 (0, 0)) := by
      rw [hx5]
      exact (Below.heap_setCell _ _ _ _ (by show w.heap.size ≠ w.heap.size + 1; omega)).trans P5
    have R5 := D5.out.1
    have hbl5 : w.heap.size + 1 + 1 < x5.heap.size := by rw [hx5]; simpa [World.setCell] using hb5
    clear hr5 P5 hb5 
    go_wp2_with fail
    rw [← hx5]
    clear hx5 U5 f5 e5
    rw [rounds_succ]
    have FIN : ∀ X, Below w.heap.size x5 X → Hid (VecQ R bad s.data.toList w (.returned (.agg #[.int .i64 n2, .int .i64 n3, .int .i64 n4, .int .i64 n5])) X) := fun X hX => by
      refine ⟨(n2, n3, n4, n5), rfl, fun x hx => ?_, ?_⟩
      · obtain ⟨q1, q2, q3, q4⟩ := vecP_some HP.out hx
        rw [hn2 _ q1, hn3 _ q2, hn4 _ q3, hn5 _ q4]
        rfl
      · rw [vecP_flag HP.out, ← Bool.or_assoc, ← Bool.or_assoc, ← Bool.or_assoc]
        exact D5.out.on hlr hX
    have FH := hid FIN
    obtain ⟨u0, u1, u2, u3, uf⟩ := four V5
    obtain ⟨o0, o1, o2, o3, of⟩ := four O5
    clear FIN D1 D2 D3 D4 D5 HP HSM HSZ HR hn2 hn3 hn4 hn5
    go_wp2
    refine ret_row1 rfl w.heap.size #[.int .i64 n2, .int .i64 n3, .int .i64 n4, .int .i64 n5] 24 _ rfl Tryz.underlying24 rfl infoV rfl (by apply Exists.intro; refine ⟨?_, ?_⟩; (focus ((repeat (first | (with_reducible assumption) | (with_reducible exact alloc_at _ _) | ((with_reducible apply alloc_at'); (simp; done)) | (with_reducible apply alloc_at_lt) | (with_reducible apply heap_drew_at) | (with_reducible apply heap_drewN_at) | (with_reducible apply heap_setCell_same) | ((with_reducible apply heap_set_ne); (first | omega | (dsimp only; omega) | (simp; done) | (simp; omega))) | (with_reducible apply setRow_at) | ((with_reducible apply setRow_ne); (first | omega | (dsimp only; omega) | (simp; done) | (simp; omega))))))); simp) (FH.out _ ?_).out
    exact (by repeat (first | with_reducible assumption | with_reducible exact Below.refl _ _ | with_reducible refine Below.drew ?_ | with_reducible refine below_drewN ?_ _ | with_reducible refine Below.alloc ?_ (by first | omega | (simp; done) | (simp; omega)) _ | with_reducible refine Below.setCell ?_ (by first | omega | (simp; done) | (simp; omega)) _ | with_reducible refine below_setRow ?_ (by first | omega | (simp; done) | (simp; omega)) _))
  · have hni : ((n : Int) != 4) = true := by rw [bne_iff_ne]; omega
    have hnone := vecP_len (by rw [← hn]; exact h4)
    have FIN : ∀ X, Below w.heap.size (w1.setCell ⟨R, 0, none⟩ (.bool true)) X → Hid (VecQ R bad s.data.toList w (.returned (.agg #[.int .i64 0, .int .i64 0, .int .i64 0, .int .i64 0])) X) := fun X hX => by
      refine ⟨zeroV, rfl, fun x hx => (by rw [hnone] at hx; cases hx), ?_⟩
      rw [hnone]
      simp only [Option.isNone_none, Bool.or_true]
      exact (rdr_set D1.out).on hlr hX
    have FH := hid FIN
    obtain ⟨u0, u1, u2, u3, uf⟩ := four V1
    obtain ⟨o0, o1, o2, o3, of⟩ := four O1
    have q1 : w1.cell? ⟨R, 0, none⟩ = some (.bool bad) := (blk_cell R1 0).trans rfl
    have q2 := blk_free R1 0
    have k1 : ¬ R = w.heap.size + 1 := by omega
    have k2 : ¬ R = w.heap.size := by omega
    clear FIN D1 HSM HSZ HR hc1 hb1 hn h4 hnone
    go_wp2
    refine ret_row1 rfl w.heap.size #[.int .i64 0, .int .i64 0, .int .i64 0, .int .i64 0] 24 _ rfl Tryz.underlying24 rfl infoV rfl (by apply Exists.intro; refine ⟨?_, ?_⟩; (focus ((repeat (first | (with_reducible assumption) | (with_reducible exact alloc_at _ _) | ((with_reducible apply alloc_at'); (simp; done)) | (with_reducible apply alloc_at_lt) | (with_reducible apply heap_drew_at) | (with_reducible apply heap_drewN_at) | (with_reducible apply heap_setCell_same) | ((with_reducible apply heap_set_ne); (first | omega | (dsimp only; omega) | (simp; done) | (simp; omega))) | (with_reducible apply setRow_at) | ((with_reducible apply setRow_ne); (first | omega | (dsimp only; omega) | (simp; done) | (simp; omega))))))); simp) (FH.out _ ?_).out
    exact (by repeat (first | with_reducible assumption | with_reducible exact Below.refl _ _ | with_reducible refine Below.drew ?_ | with_reducible refine below_drewN ?_ _ | with_reducible refine Below.alloc ?_ (by first | omega | (simp; done) | (simp; omega)) _ | with_reducible refine Below.setCell ?_ (by first | omega | (simp; done) | (simp; omega)) _ | with_reducible refine below_setRow ?_ (by first | omega | (simp; done) | (simp; omega)) _))
end Go.Proofs.YtidcbcljeofooaaGreatDoor
