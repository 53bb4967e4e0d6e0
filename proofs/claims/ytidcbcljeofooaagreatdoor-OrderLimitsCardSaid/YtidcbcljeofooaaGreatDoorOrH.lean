/- Chapter 20: the program's Formed: the parts of package wire. -/
import Derived.Test.YtidcbcljeofooaaGreatDoorOrG
import Derived.Test.YtidcbcljeofooaaGreatDoorRunA
import Derived.Test.YtidcbcljeofooaaGreatDoorVec1
namespace Go.Proofs.YtidcbcljeofooaaGreatDoor
open Go.RowKit Go.WideShapes
theorem id_any (n : Int) (w : World) : Calls Tryz.prog 38 #[.int .i64 n] w fun e w' => e = .returned (.bool (idB n)) ∧ Below w.heap.size w w' := by
  go_enter Tryz.func38, Tryz.ntmps38
  go_wp2
  all_goals go_ret
  all_goals refine ⟨congrArg (fun b => Ending.returned (Value.bool b)) ?_, (by repeat (first | with_reducible assumption | with_reducible exact Below.refl _ _ | with_reducible refine Below.drew ?_ | with_reducible refine below_drewN ?_ _ | with_reducible refine below_alloc ?_ _ | with_reducible refine Below.alloc ?_ (by first | omega | (simp; done) | (simp; omega)) _ | with_reducible refine Below.setCell ?_ (by first | omega | (simp; done) | (simp; omega)) _ | with_reducible refine below_setRow ?_ (by first | omega | (simp; done) | (simp; omega)) _))⟩
  all_goals (unfold idB; rw [Bool.eq_iff_iff]; simp; try omega)
theorem wid_any (n : Int) (w : World) : Calls Tryz.prog 69 #[.int .i64 n] w fun e w' => e = .returned (.bool (idB n)) ∧ Below w.heap.size w w' := by
  go_enter Tryz.func69, Tryz.ntmps69
  go_wp2
  all_goals go_ret
  all_goals refine ⟨congrArg (fun b => Ending.returned (Value.bool b)) ?_, (by repeat (first | with_reducible assumption | with_reducible exact Below.refl _ _ | with_reducible refine Below.drew ?_ | with_reducible refine below_drewN ?_ _ | with_reducible refine below_alloc ?_ _ | with_reducible refine Below.alloc ?_ (by first | omega | (simp; done) | (simp; omega)) _ | with_reducible refine Below.setCell ?_ (by first | omega | (simp; done) | (simp; omega)) _ | with_reducible refine below_setRow ?_ (by first | omega | (simp; done) | (simp; omega)) _))⟩
  all_goals (unfold idB; rw [Bool.eq_iff_iff]; simp; try omega)
theorem ep_any (n : Int) (w : World) : Calls Tryz.prog 40 #[.int .i64 n] w fun e w' => e = .returned (.bool (epB n)) ∧ Below w.heap.size w w' := by
  go_enter Tryz.func40, Tryz.ntmps40
  go_wp2
  all_goals go_ret
  all_goals refine ⟨congrArg (fun b => Ending.returned (Value.bool b)) ?_, (by repeat (first | with_reducible assumption | with_reducible exact Below.refl _ _ | with_reducible refine Below.drew ?_ | with_reducible refine below_drewN ?_ _ | with_reducible refine below_alloc ?_ _ | with_reducible refine Below.alloc ?_ (by first | omega | (simp; done) | (simp; omega)) _ | with_reducible refine Below.setCell ?_ (by first | omega | (simp; done) | (simp; omega)) _ | with_reducible refine below_setRow ?_ (by first | omega | (simp; done) | (simp; omega)) _))⟩
  all_goals (unfold epB; rw [Bool.eq_iff_iff]; simp; try omega)
theorem vecf_any (v : V) (w : World) : Calls Tryz.prog 41 #[.agg #[.int .i64 v.1, .int .i64 v.2.1, .int .i64 v.2.2.1, .int .i64 v.2.2.2]] w fun e w' => e = .returned (.bool (okV v)) ∧ Below w.heap.size w w' := formed_any _ _ _ _ w
set_option maxHeartbeats 4000000 in
set_option maxRecDepth 20000 in
theorem names_one {s : ByteArray} {w : World} {g : Nat} (hs : s.size ≤ maxLen) (hc : w.cell? ⟨g, 0, none⟩ = some (.string s)) : Calls Tryz.prog 67 #[.slice (some ⟨g, 0, none⟩) 1 1] w fun e w' => e = .returned (.bool (nameB s)) ∧ Below w.heap.size w w' := by
  have HN := hid (fun W => name_any s W hs)
  clear hs
  go_enter Tryz.func67, Tryz.ntmps67
  go_wp2_with fail
  refine wp_loop_rounds 2 ?_
  rw [rounds_succ]
  go_wp2_with fail
  refine (HN.out _).mono ?_
  rintro e w1 ⟨rfl, hb1⟩
  clear HN
  cases hq : nameB s
  · go_wp2_with fail
    go_ret
    exact ⟨by rw [hq]; rfl, hb1⟩
  · go_wp2_with fail
    rw [rounds_succ]
    go_wp2_with fail
    go_ret
    exact ⟨by rw [hq]; rfl, hb1⟩
/-- A formed job. -/
structure JbF (j : Jb) : Prop where
  id : idB j.id = true
  ten : nameB j.ten = true
  pri : 0 ≤ j.pri ∧ j.pri ≤ 100
  run : 1 ≤ j.run ∧ j.run ≤ 1000
  pl : j.par.length ≤ 4
  tl : 1 ≤ j.tsk.length ∧ j.tsk.length ≤ 6
  par : parB j.id j.par = true
  tsk : j.tsk.all okV = true
  st : j.st = 0 ∧ j.att = 0 ∧ j.start = 0
  nod : j.nod = [] ∧ j.don = []
theorem jobB_iff (j : Jb) : jobB j = true ↔ JbF j := by
  unfold jobB
  simp only [Bool.and_eq_true, decide_eq_true_eq]
  constructor
  · rintro ⟨⟨⟨⟨⟨⟨⟨⟨⟨h1, h2⟩, h3⟩, h4⟩, h5⟩, h6⟩, h7⟩, h8⟩, h9⟩, h10⟩
    exact ⟨h1, h2, h3, h4, h5, h6, h7, h8, h9, h10⟩
  · rintro ⟨h1, h2, h3, h4, h5, h6, h7, h8, h9, h10⟩
    exact ⟨⟨⟨⟨⟨⟨⟨⟨⟨h1, h2⟩, h3⟩, h4⟩, h5⟩, h6⟩, h7⟩, h8⟩, h9⟩, h10⟩
theorem jobB_no {j : Jb} (h : ¬ JbF j) : jobB j = false := by
  cases q : jobB j with
  | false => rfl
  | true => exact absurd ((jobB_iff j).1 q) h
/-- The first i parents are right. -/
def parU (id : Int) (l : List Int) (i : Nat) : Prop := (l.take i).all (fun p => idB p && decide (p ≠ id)) = true ∧ (l.take i).Pairwise (· < ·)
theorem parU_zero (id : Int) (l : List Int) : parU id l 0 := ⟨by rw [List.take_zero]; rfl, by rw [List.take_zero]; exact List.Pairwise.nil⟩
theorem parU_all {id : Int} {l : List Int} : parU id l l.length → parB id l = true := fun ⟨h1, h2⟩ => by
  rw [List.take_length] at h1 h2
  unfold parB
  rw [h1, decide_eq_true h2]; rfl
theorem parU_of {id : Int} {l : List Int} (h : parB id l = true) (i : Nat) : parU id l i := by
  unfold parB at h
  rw [Bool.and_eq_true, decide_eq_true_eq, List.all_eq_true] at h
  refine ⟨?_, h.2.sublist (List.take_sublist _ _)⟩
  rw [List.all_eq_true]
  exact fun x hx => h.1 x (List.mem_of_mem_take hx)
theorem parU_next {id : Int} {l : List Int} {i : Nat} {p : Int} (h : parU id l i) (hp : l[i]? = some p) (h1 : idB p = true) (h2 : p ≠ id) (h3 : i = 0 ∨ l.getD (i - 1) 0 < p) : parU id l (i + 1) := by
  obtain ⟨ha, hb⟩ := h
  have hi := (List.getElem?_eq_some_iff.1 hp).1
  refine ⟨?_, ?_⟩
  · rw [List.take_add_one, hp, List.all_append, ha]
    simp [h1, h2]
  · rw [List.take_add_one, hp, List.pairwise_append]
    refine ⟨hb, by simp, fun a ha2 c hc => ?_⟩
    simp at hc
    subst hc
    rcases h3 with rfl | h3
    · rw [List.take_zero] at ha2; cases ha2
    · obtain ⟨k, hk, rfl⟩ := List.mem_iff_getElem.1 ha2
      rw [List.length_take] at hk
      rw [List.getElem_take]
      rw [List.getD_eq_getElem?_getD, List.getElem?_eq_getElem (by omega)] at h3
      simp only [Option.getD_some] at h3
      by_cases e : k = i - 1
      · subst e; exact h3
      · have := List.pairwise_iff_getElem.1 hb k (i - 1) (by rw [List.length_take]; omega) (by rw [List.length_take]; omega) (by omega)
        rw [List.getElem_take, List.getElem_take] at this
        omega
theorem parU_bad {id : Int} {l : List Int} {i : Nat} {p : Int} (hp : l[i]? = some p) (h : idB p = false ∨ p = id ∨ (0 < i ∧ p ≤ l.getD (i - 1) 0)) : parB id l = false := by
  cases q : parB id l with
  | false => rfl
  | true =>
    have hi := (List.getElem?_eq_some_iff.1 hp).1
    unfold parB at q
    rw [Bool.and_eq_true, decide_eq_true_eq, List.all_eq_true] at q
    have h1 := q.1 p (List.mem_of_getElem? hp)
    rw [Bool.and_eq_true, decide_eq_true_eq] at h1
    rcases h with h | h | ⟨h, h2⟩
    · rw [h] at h1; exact absurd h1.1 (by decide)
    · exact absurd h h1.2
    · have := List.pairwise_iff_getElem.1 q.2 (i - 1) i (by omega) hi (by omega)
      rw [List.getD_eq_getElem?_getD, List.getElem?_eq_getElem (by omega)] at h2
      simp only [Option.getD_some] at h2
      have e := (List.getElem?_eq_some_iff.1 hp).2
      omega
/-- One of a row of numbers. -/
theorem slZ_at {w W : World} {A : Option Addr} {n i : Nat} {l : List Int} (h : SlG 1 fZ w A n l) (hb : Below w.heap.size w W) (hi : i < l.length) : ∃ b off, A = some ⟨b, off, none⟩ ∧ b < W.heap.size ∧ W.cell? ⟨b, off + i, none⟩ = some (.int .i64 (l.getD i 0)) := by
  obtain ⟨b, off, e, hlt, hc⟩ := h.one hb (List.getElem?_eq_getElem hi)
  refine ⟨b, off, e, hlt, ?_⟩
  have := hc 0 (by omega)
  rw [Nat.mul_one, Nat.add_zero] at this
  rw [this]
  show some (fZ _ 0) = _
  unfold fZ
  rw [List.getD_eq_getElem?_getD, List.getElem?_eq_getElem hi]; rfl
theorem slV_at {w W : World} {A : Option Addr} {n i : Nat} {l : List V} (h : SlG 4 fV w A n l) (hb : Below w.heap.size w W) (hi : i < l.length) : ∃ b off, A = some ⟨b, off, none⟩ ∧ b < W.heap.size ∧ W.cell? ⟨b, off + i * 4, none⟩ = some (.int .i64 (l.getD i zeroV).1) ∧ W.cell? ⟨b, off + i * 4 + 1, none⟩ = some (.int .i64 (l.getD i zeroV).2.1)
    ∧ W.cell? ⟨b, off + i * 4 + 2, none⟩ = some (.int .i64 (l.getD i zeroV).2.2.1) ∧ W.cell? ⟨b, off + i * 4 + 3, none⟩ = some (.int .i64 (l.getD i zeroV).2.2.2) := by
  obtain ⟨b, off, e, hlt, hc⟩ := h.one hb (List.getElem?_eq_getElem hi)
  have e2 : l[i] = l.getD i zeroV := by rw [List.getD_eq_getElem?_getD, List.getElem?_eq_getElem hi]; rfl
  rw [e2] at hc
  have h0 := hc 0 (by omega)
  rw [Nat.add_zero] at h0
  exact ⟨b, off, e, hlt, h0, hc 1 (by omega), hc 2 (by omega), hc 3 (by omega)⟩
theorem below_one {w w2 : World} {o : Obj} (h : Below (w.alloc o).heap.size (w.alloc o) w2) : Below w.heap.size w w2 := (below_alloc (Below.refl _ w) o).trans (h.mono (by simp))
theorem below_two {w w2 w3 : World} {o : Obj} (h : Below (w.alloc o).heap.size (w.alloc o) w2) (h3 : Below w2.heap.size w2 w3) : Below w.heap.size w w3 := (below_one h).trans (h3.mono (below_one h).size)
end Go.Proofs.YtidcbcljeofooaaGreatDoor
