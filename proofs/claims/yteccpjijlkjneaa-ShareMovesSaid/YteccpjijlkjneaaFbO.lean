/- Chapter 8's ring, Len, Min over the heap in memory. -/
import Derived.Test.YteccpjijlkjneaaFbN
namespace Go.Proofs.Yteccpjijlkjneaa
open Go.RowKit
theorem Lk.at {lf rt : Nat → Int} : ∀ {l : List Nat}, Lk lf rt l → ∀ j, (h : j + 1 < l.length) → rt l[j] = (l[j + 1] : Int)
  | [], _, j, h => by simp at h
  | [_], _, j, h => by simp at h
  | a :: b :: t, ⟨e1, _, h'⟩, 0, _ => e1
  | a :: b :: t, ⟨_, _, h'⟩, j + 1, h => Lk.at h' j (by simpa using h)
/-- What stands at place j behind x. -/
def nxt (t : List Nat) (x j : Nat) : Nat := (t ++ [x]).getD j 0
def rowI (l : List Nat) : List Value := l.map (fun z : Nat => Value.int .i64 (z : Int))
theorem infoI : (Try.prog.info? 3).map (fun i => (i.zero, i.size, i.bytes)) = some (some (.int .i64 0), 1, 8) := by kernel_rfl
theorem app_int {W : World} {base n : Nat} {v : Value} {xs : List Value} (hown : W.ownsRow base 3 1 v n xs) (hm : n ≤ 10000000) (hbase : base ≤ W.heap.size) (z : Int) :
    ∃ v' w', (Builtin.append_ #[84, 84] 84 #[v, .slice (some ⟨W.heap.size, 0, none⟩) 1 1]).run Try.prog (W.alloc (.cells #[.int .i64 z] 3)) = .ok v' w' ∧
      w'.ownsRow base 3 1 v' (n + 1) (xs ++ [.int .i64 z]) ∧ (W.alloc (.cells #[.int .i64 z] 3)).grownBy w' v.ownBlock := by
  obtain ⟨i0, hi, hz0, hz1, hz2⟩ := info_parts infoI
  obtain ⟨v', w', h1, h2, h3, -⟩ := run_append_own (P := Try.prog) (W.alloc (.cells #[.int .i64 z] 3)) base 84 84 3 i0 _ 1 8 Try.underlying84 hi hz0 hz1 hz2 rfl (by omega) v n xs (hown.alloc _)
    ⟨W.heap.size, 0, none⟩ 1 1 [.int .i64 z] rfl (World.news_of_block (alloc_at _ _)) (fun u hu => by rw [List.mem_singleton] at hu; subst hu; rfl) (by unfold maxLen; omega) (by omega) (by simp; omega)
  exact ⟨v', w', h1, h2, h3⟩
theorem slice_int {w : World} {B n : Nat} {v : Value} {xs : List Value} (h : w.ownsRow B 3 1 v n xs) : ∃ A cap, v = .slice A n cap := by
  obtain ⟨-, ⟨rfl, h0⟩ | ⟨g, cap, cur, rfl, _⟩⟩ := h
  · exact ⟨none, 0, by rw [h0]⟩
  · exact ⟨_, cap, rfl⟩
theorem below_grown {w w' : World} {r : Option Nat} {B : Nat} (h : w.grownBy w' r) (hB : B ≤ w.heap.size) (hr : ∀ j, r = some j → B ≤ j) : Below B w w' :=
  ⟨h.os, h.tape, h.output, h.size, fun k hk => h.block k (by omega) (by intro e; have := hr k e.symm; omega)⟩
theorem below_grown' {w wr w8 : World} {r : Option Nat} {o : Obj} (h : Below w.heap.size w wr) (hg : (wr.alloc o).grownBy w8 r) (hr : ∀ j, r = some j → w.heap.size ≤ j) : Below w.heap.size w w8 :=
  (h.alloc h.size o).trans (below_grown hg (by have := h.size; simp; omega) hr)
variable {B H g cap : Nat} {w w' : World} {s s' : Hp} {least n : Int}
set_option maxRecDepth 20000 in
set_option maxHeartbeats 4000000 in
theorem ring_g (x : Nat) (t : List Nat) (h : HeapG B w H g cap s least n) (hm : s.m ≤ 1048576) (hr : Ring s.lf s.rt (x :: t)) (hnd : (x :: t).Nodup) (hlt : ∀ z ∈ x :: t, z < s.m) :
    Calls Try.prog 39 #[.pointer (some ⟨H, 0, none⟩), .int .i64 x] w fun e w' => ∃ v, e = .returned v ∧ w'.ownsRow w.heap.size 3 1 v (t.length + 1) (rowI (x :: t)) ∧ Below w.heap.size w w' := by
  have hlen : t.length + 1 ≤ s.m := nodup_le s.m (x :: t) hnd hlt
  have HLEN := hid hlen
  have hx : x < s.m := hlt x (by simp)
  have ix : (x : Int) < (s.m : Int) := by omega
  have HX := hid hx
  have HLT := hid hlt
  have HND := hid hnd
  have HH := hid h
  have HM := hid hm
  -- what is right of each
  have HN : Hid (∀ j, j ≤ t.length → s.rt ((x :: t).getD j 0) = (nxt t x j : Int)) := fun j hj => by
    unfold nxt
    have h1 : Lk s.lf s.rt (x :: (t ++ [x])) := hr
    have h2 := h1.at j (by simp; omega)
    rw [List.getElem_cons_succ] at h2
    rw [List.getD_eq_getElem?_getD, List.getD_eq_getElem?_getD, List.getElem?_eq_getElem (by simp; omega), List.getElem?_eq_getElem (by simp; omega)]
    simp only [Option.getD_some]
    rw [← h2]
    congr 1
    cases j with
    | zero => rfl
    | succ j => simp only [List.getElem_cons_succ]; rw [List.getElem_append_left (by omega)]
  obtain ⟨c0, -, -, cf⟩ := h.head
  obtain ⟨-, -, -, -, -, -, x6, -, -, -⟩ := h.cells hx
  have h0 := HN.out 0 (Nat.zero_le _)
  rw [show (x :: t).getD 0 0 = x from rfl] at h0
  rw [h0] at x6
  have hlH := h.ltH
  have hlg := h.ltg
  clear h hr hnd hlt hm hlen hx h0
  go_enter Try.func39, Try.ntmps39
  go_upto_region 2 with (fail)
  refine wp_name ?_
  intro w2 hw2
  have R2 : w2.ownsRow w.heap.size 3 1 (.slice (some ⟨w.heap.size, 0, none⟩) 1 1) 1 (rowI (x :: t.take 0)) := by
    rw [hw2]
    exact World.ownsRow_lit (base := w.heap.size) (size := 1) (e := 3) w #[.int .i64 (x : Int)] 1 (Nat.le_refl _) (by unfold maxLen; omega) (by simp)
  have B2 : Below w.heap.size w w2 := by rw [hw2]; exact (by repeat (first | with_reducible assumption | with_reducible exact Below.refl _ _ | with_reducible refine Below.drew ?_ | with_reducible refine below_drewN ?_ _ | with_reducible refine below_alloc ?_ _ | with_reducible refine Below.alloc ?_ (by first | omega | (simp; done) | (simp; omega)) _ | with_reducible refine Below.setCell ?_ (by first | omega | (simp; done) | (simp; omega)) _ | with_reducible refine below_setRow ?_ (by first | omega | (simp; done) | (simp; omega)) _))
  have c0' : w2.cell? ⟨H, 0, none⟩ = some (.slice (some ⟨g, 0, none⟩) s.m cap) := (B2.cell (p := ⟨H, 0, none⟩) hlH).trans c0
  have x6' : w2.cell? ⟨g, x * 10 + 6, none⟩ = some (.int .i64 (nxt t x 0 : Int)) := (B2.cell (p := ⟨g, x * 10 + 6, none⟩) hlg).trans x6
  have R2' := hid R2
  have B2' := hid B2
  clear hw2 R2 B2 c0 x6 cf
  go_wp2_with fail
  go_loopg [5, 6] t.length (fun k l y wr => ∃ (j : Nat) (v : Value), j + k = t.length ∧ v = l ∧ y = .int .i64 (nxt t x j : Int) ∧ Hid (wr.ownsRow w.heap.size 3 1 v (j + 1) (rowI (x :: t.take j))) ∧ Hid (Below w.heap.size w wr))
  case atStart => exact ⟨0, _, by omega, rfl, rfl, R2', B2'⟩
  case round =>
    obtain ⟨j, v, hjk, rfl, rfl, HO, HB⟩ := hrel
    have HJ := hid hjk
    have Hh := hid (HH.out.below HB.out)
    obtain ⟨c0, -, -, cf⟩ := Hh.out.head
    cases gk with
    | zero =>
      have hj : j = t.length := by omega
      subst hj
      have e1 : nxt t x t.length = x := by simp [nxt]
      have HO' : Hid (wr.ownsRow w.heap.size 3 1 v (t.length + 1) (rowI (x :: t))) := by
        have := HO.out
        rwa [List.take_length] at this
      rw [e1]
      clear hjk e1
      go_wp2
      go_ret
      exact ⟨_, rfl, HO'.out, HB.out⟩
    | succ k =>
      have hjt : j < t.length := by omega
      obtain ⟨y, hy⟩ : ∃ y, y = t[j] := ⟨_, rfl⟩
      have e1 : nxt t x j = y := by
        unfold nxt
        rw [List.getD_eq_getElem?_getD, List.getElem?_eq_getElem (by simp; omega), Option.getD_some, List.getElem_append_left hjt, hy]
      have hyt : y ∈ t := by rw [hy]; exact List.getElem_mem _
      have hyx : y ≠ x := fun e => (List.nodup_cons.1 HND.out).1 (by rw [← e]; exact hyt)
      have hym : y < s.m := HLT.out y (List.mem_cons_of_mem _ hyt)
      have iy : (y : Int) < (s.m : Int) := by omega
      have hne : ((y : Int) != (x : Int)) = true := by simp; omega
      obtain ⟨-, -, -, -, -, -, y6, -, -, -⟩ := Hh.out.cells hym
      have e2 : s.rt y = (nxt t x (j + 1) : Int) := by
        have := HN.out (j + 1) (by omega)
        rw [show (x :: t).getD (j + 1) 0 = y by rw [List.getD_cons_succ, List.getD_eq_getElem?_getD, List.getElem?_eq_getElem hjt, Option.getD_some, hy]] at this
        exact this
      rw [e2] at y6
      rw [e1]
      have ho := HO.out
      obtain ⟨A3, cap3, rfl⟩ := slice_int ho
      obtain ⟨v8, w8, happ, hown8, hg8⟩ := app_int ho (by have := HLEN.out; have := HM.out; omega) HB.out.size (y : Int)
      have HAPP := hid happ
      have HTK : Hid (rowI (x :: t.take (j + 1)) = rowI (x :: t.take j) ++ [.int .i64 (y : Int)]) := by
        unfold Hid rowI
        have h1 : t.take (j + 1) = t.take j ++ [t[j]] := by rw [List.take_add_one, List.getElem?_eq_getElem hjt]; rfl
        rw [h1, ← hy]
        simp
      have HN8 : Hid (w8.ownsRow w.heap.size 3 1 v8 (j + 1 + 1) (rowI (x :: t.take (j + 1)))) := by
        unfold Hid
        rw [HTK.out]
        exact hown8
      have B8 := below_grown' HB.out hg8 (fun j e => (ho.lt j e).1)
      have HB8 := hid B8
      have c8 : w8.cell? ⟨H, 0, none⟩ = some (.slice (some ⟨g, 0, none⟩) s.m cap) := (HH.out.below B8).head.1
      have y8 : w8.cell? ⟨g, y * 10 + 6, none⟩ = some (.int .i64 (nxt t x (j + 1) : Int)) := by rw [((HH.out.below B8).cells hym).2.2.2.2.2.2.1, e2]
      have HMs : Hid (k < k + 1) := Nat.lt_succ_self k
      clear hjk hjt hy e1 hyt hyx hym e2 happ hown8 hg8 ho B8 c0 cf y6
      go_wp2_with (first | (at_builtin; refine wpList_append_eq rfl _ _ _ rfl rfl rfl HAPP.out ?_))
      go_roundg k
      case rel => exact ⟨j + 1, v8, by have := HJ.out; omega, rfl, rfl, HN8, HB8⟩
      case measure => exact HMs.out
end Go.Proofs.Yteccpjijlkjneaa
