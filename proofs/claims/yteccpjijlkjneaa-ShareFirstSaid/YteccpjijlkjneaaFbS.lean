/- Chapter 8's Pop where there is something. -/
import Derived.Test.YteccpjijlkjneaaFbQ
namespace Go.Proofs.Yteccpjijlkjneaa
open Go.RowKit
variable {B H g cap : Nat} {w w' : World} {s s' : Hp} {least n : Int}
theorem rowI_get {l : List Nat} {j : Nat} (hj : j < l.length) : (rowI l)[j]? = some (.int .i64 (l[j] : Int)) := by
  unfold rowI
  rw [List.getElem?_map, List.getElem?_eq_getElem hj]
  rfl
theorem rowI_one (l : List Nat) : ∀ u ∈ rowI l, u.oneCell' = true := by
  intro u hu
  obtain ⟨z, -, rfl⟩ := List.mem_map.1 hu
  rfl
theorem row_cell {w : World} {b k : Nat} {v : Value} {l : List Nat} (h : w.ownsRow b 3 1 v k (rowI l)) (hk : k = l.length) {j : Nat} (hj : j < l.length) : ∃ q cap', v = .slice (some ⟨q, 0, none⟩) k cap' ∧ b ≤ q ∧ q < w.heap.size ∧ w.cell? ⟨q, j, none⟩ = some (.int .i64 (l[j] : Int)) := by
  obtain ⟨h3, ⟨-, h4⟩ | ⟨q, cap', cur, rfl, hg, hh, -, -, -, ht⟩⟩ := h
  · omega
  · refine ⟨q, cap', rfl, hg, lt_of_at hh, ?_⟩
    rw [blk_cell hh]
    have := rowI_get hj
    rw [← ht, List.getElem?_take, if_pos (by omega)] at this
    simpa using this
theorem row_at {w w' : World} {b k : Nat} {v : Value} {xs : List Value} {ty : TypeId} {z : Nat} (h : w.ownsRow b ty z v k xs) (hb : Below w.heap.size w w') : w'.ownsRow b ty z v k xs := by
  obtain ⟨h3, h4 | ⟨q, cap', cur, rfl, hg, hh, rest⟩⟩ := h
  · exact ⟨h3, .inl h4⟩
  · exact ⟨h3, .inr ⟨q, cap', cur, rfl, hg, (hb.block q (lt_of_at hh)).trans hh, rest⟩⟩
theorem Tur.drew_ (F : Nat → Prop) (w : World) : Tur F w w.drew := ⟨rfl, by simp, rfl, Nat.le_refl _, fun _ _ _ => rfl⟩
theorem row_zero {w : World} {b k : Nat} {v : Value} {xs : List Value} {ty : TypeId} {z : Nat} (h : w.ownsRow b ty z v k xs) : w.ownsRow 0 ty z v k xs := by
  obtain ⟨h3, h4 | ⟨q, cap', cur, rfl, hg, rest⟩⟩ := h
  · exact ⟨h3, .inl h4⟩
  · exact ⟨h3, .inr ⟨q, cap', cur, rfl, Nat.zero_le _, rest⟩⟩
theorem row_kept {w w' : World} {b k : Nat} {v : Value} {xs : List Value} {ty : TypeId} {z : Nat} (h : w.ownsRow b ty z v k xs) (e : ∀ q, v.ownBlock = some q → w'.heap[q]? = w.heap[q]?) : w'.ownsRow b ty z v k xs := by
  obtain ⟨h3, h4 | ⟨q, cap', cur, rfl, hg, hh, rest⟩⟩ := h
  · exact ⟨h3, .inl h4⟩
  · exact ⟨h3, .inr ⟨q, cap', cur, rfl, hg, (e q rfl).trans hh, rest⟩⟩
/-- What Pop wants of the entry that it takes: it stands first in the roots' ring. -/
def Popped (s : Hp) (n : Int) (x : Nat) : Prop := ∃ t kl, (s.th x = true ∧ x < s.m) ∧ Ring s.lf s.rt (x :: t) ∧ (x :: t).Nodup ∧ (∀ z ∈ x :: t, z < s.m) ∧
    Ring s.lf s.rt kl ∧ kl.Nodup ∧ s.ch x = hd kl ∧ (∀ z ∈ kl, z < s.m) ∧ ∃ kids, Frst (s.clear x) kids none (t ++ kl) ∧ n - 1 = ((List.range (s.clear x).m).countP (s.clear x).th : Int)
set_option maxRecDepth 100000 in
set_option maxHeartbeats 8000000 in
theorem pop_any {x : Nat} (h : HeapG B w H g cap s least n) (hm : s.m ≤ 1048576) (hnn : 0 ≤ n ∧ n ≤ (s.m : Int)) (hp : Popped s n x) (hl : least = (x : Int) + 1) (hn : 0 < n) :
    Calls Try.prog 25 #[.pointer (some ⟨H, 0, none⟩)] w fun e w' => e = .returned (.tuple #[.int .i64 x, keyV (s.key x), .int .i64 0]) ∧ ∃ s' least', HeapG B w' H g cap s' least' (n - 1) ∧ Good s' least' (n - 1) ∧ SameK (s.clear x) s' ∧ Tur (FootG H g) w w' := by
  obtain ⟨t, kl, ⟨tx, hx⟩, hrx, hndx, hltx, hrk, hndk, hch, hltk, kids, hfr, hcnt⟩ := hp
  have hMin : ∀ W, Below w.heap.size w W → Calls Try.prog 38 #[.pointer (some ⟨H, 0, none⟩)] W fun e w' => e = .returned (.tuple #[.int .i64 x, .agg #[.int .u64 (s.key x).1, .int .u64 (s.key x).2.1, .int .i64 (s.key x).2.2], .int .i64 0]) ∧ Below W.heap.size W w' := fun W hb => min_some (h.below hb) hl hx hm hn
  have hRg : ∀ W, Below w.heap.size w W → Calls Try.prog 39 #[.pointer (some ⟨H, 0, none⟩), .int .i64 x] W fun e w' => ∃ v, e = .returned v ∧ w'.ownsRow W.heap.size 3 1 v (t.length + 1) (rowI (x :: t)) ∧ Below W.heap.size W w' := fun W hb => ring_g x t (h.below hb) hm hrx hndx hltx
  have HMIN := hid hMin
  have HRG := hid hRg
  have HH := hid h
  have HM := hid hm
  have HX := hid hx
  have HND := hid hndx
  have HFR := hid hfr
  have HCNT := hid hcnt
  have HLT : Hid (t.length + 1 ≤ 1048576) := Nat.le_trans (nodup_le s.m (x :: t) hndx hltx) hm
  have HRK := hid hrk
  have HNDK := hid hndk
  have HCH := hid hch
  have HLTK := hid hltk
  have hlH := h.ltH
  have hlg := h.ltg
  unfold keyV
  obtain ⟨k, hk⟩ : ∃ k : K3, k = s.key x := ⟨_, rfl⟩
  rw [← hk] at HMIN ⊢
  obtain ⟨k0, k1, k2⟩ := k
  simp only at HMIN ⊢
  clear h hm tx hx hrx hndx hltx hrk hndk hch hltk hfr hcnt hMin hRg hk hl hn
  go_enter Try.func25, Try.ntmps25
  go_wp2_with fail
  refine (HMIN.out _ (by repeat (first | with_reducible assumption | with_reducible exact Below.refl _ _ | with_reducible refine Below.drew ?_ | with_reducible refine below_drewN ?_ _ | with_reducible refine below_alloc ?_ _ | with_reducible refine Below.alloc ?_ (by first | omega | (simp; done) | (simp; omega)) _ | with_reducible refine Below.setCell ?_ (by first | omega | (simp; done) | (simp; omega)) _ | with_reducible refine below_setRow ?_ (by first | omega | (simp; done) | (simp; omega)) _))).mono ?_
  rintro e w1 ⟨rfl, hb1⟩
  have hs1 := hb1.size
  simp only [World.size_alloc] at hs1
  have Z1 := below_at hb1 (n := w.heap.size) (by simp) (at_of (cs := #[.int .u64 0, .int .u64 0, .int .i64 0]) (t := 60) (fr := (0, 0)) (by apply Exists.intro; refine ⟨?_, ?_⟩; (focus ((repeat (first | (with_reducible assumption) | (with_reducible exact alloc_at _ _) | ((with_reducible apply alloc_at'); (simp; done)) | (with_reducible apply alloc_at_lt) | (with_reducible apply heap_drew_at) | (with_reducible apply heap_drewN_at) | (with_reducible apply heap_setCell_same) | ((with_reducible apply heap_set_ne); (first | omega | (dsimp only; omega) | (simp; done) | (simp; omega))) | (with_reducible apply setRow_at) | ((with_reducible apply setRow_ne); (first | omega | (dsimp only; omega) | (simp; done) | (simp; omega))))))); simp))
  have B1 : Below w.heap.size w w1 := Below.trans (by repeat (first | with_reducible assumption | with_reducible exact Below.refl _ _ | with_reducible refine Below.drew ?_ | with_reducible refine below_drewN ?_ _ | with_reducible refine below_alloc ?_ _ | with_reducible refine Below.alloc ?_ (by first | omega | (simp; done) | (simp; omega)) _ | with_reducible refine Below.setCell ?_ (by first | omega | (simp; done) | (simp; omega)) _ | with_reducible refine below_setRow ?_ (by first | omega | (simp; done) | (simp; omega)) _)) (hb1.mono (by first | omega | (simp; done) | (simp; omega)))
  have HB1 := hid B1
  clear hb1 B1
  go_upto_region 4 with (fail)
  refine wp_name ?_
  intro w2 hw2
  have b2 : Below w1.heap.size w1 w2 := by rw [hw2]; exact (by repeat (first | with_reducible assumption | with_reducible exact Below.refl _ _ | with_reducible refine Below.drew ?_ | with_reducible refine below_drewN ?_ _ | with_reducible refine below_alloc ?_ _ | with_reducible refine Below.alloc ?_ (by first | omega | (simp; done) | (simp; omega)) _ | with_reducible refine Below.setCell ?_ (by first | omega | (simp; done) | (simp; omega)) _ | with_reducible refine below_setRow ?_ (by first | omega | (simp; done) | (simp; omega)) _))
  have Z2 : w2.heap[w.heap.size]? = some (.cells #[.int .u64 0, .int .u64 0, .int .i64 0] 60 (0, 0)) := below_at b2 (by omega) Z1
  have K2 : w2.heap[w1.heap.size]? = some (.cells #[.int .u64 k0, .int .u64 k1, .int .i64 k2] 60 (0, 0)) := by rw [hw2]; exact at_of (by apply Exists.intro; refine ⟨?_, ?_⟩; (focus ((repeat (first | (with_reducible assumption) | (with_reducible exact alloc_at _ _) | ((with_reducible apply alloc_at'); (simp; done)) | (with_reducible apply alloc_at_lt) | (with_reducible apply heap_drew_at) | (with_reducible apply heap_drewN_at) | (with_reducible apply heap_setCell_same) | ((with_reducible apply heap_set_ne); (first | omega | (dsimp only; omega) | (simp; done) | (simp; omega))) | (with_reducible apply setRow_at) | ((with_reducible apply setRow_ne); (first | omega | (dsimp only; omega) | (simp; done) | (simp; omega))))))); simp)
  have HB2 := hid (HB1.out.trans (b2.mono HB1.out.size))
  have hp6 : w.heap.size < w1.heap.size := by omega
  obtain ⟨p3, hp3⟩ : ∃ p3, p3 = w.heap.size := ⟨_, rfl⟩
  obtain ⟨p6, hp6e⟩ : ∃ p6, p6 = w1.heap.size := ⟨_, rfl⟩
  rw [← hp3] at Z2 hp6 ⊢
  rw [← hp6e] at K2 hp6 ⊢
  have HP3 := hid hp3
  have HZ2 := hid Z2
  have HK2 := hid K2
  clear hw2 b2 Z1 Z2 K2 hp6e hs1 HB1 hp3
  go_wp2_with fail
  refine (HRG.out _ HB2.out).mono ?_
  rintro e w3 ⟨vr, rfl, hrow, hb3⟩
  have HR3 : Hid (w3.ownsRow w.heap.size 3 1 vr (t.length + 1) (rowI (x :: t))) := by
    obtain ⟨h3, h4 | ⟨q, cap', cur, rfl, hg, rest⟩⟩ := hrow
    · exact ⟨h3, .inl h4⟩
    · exact ⟨h3, .inr ⟨q, cap', cur, rfl, Nat.le_trans HB2.out.size hg, rest⟩⟩
  have HB3 := hid (HB2.out.trans (hb3.mono HB2.out.size))
  have HZ3 := hid (below_at hb3 (lt_of_at HZ2.out) HZ2.out)
  have HK3 := hid (below_at hb3 (lt_of_at HK2.out) HK2.out)
  obtain ⟨qr, capr, rfl, hqr, hqrl, -⟩ := row_cell HR3.out rfl (j := 0) (by simp)
  clear hrow hb3 HZ2 HK2 HB2 hqr hqrl w1 w2
  go_wp2_with fail
  go_loopw [8, 27] (fun rv i wr => ∃ (j : Nat) (v8 : Value), j ≤ t.length + 1 ∧ v8 = rv ∧ i = .int .i64 j ∧ Hid (wr.ownsRow w3.heap.size 3 1 v8 (j - 1) (rowI (t.take (j - 1)))) ∧ Hid (Below w3.heap.size w3 wr)) (fun _ i _ => t.length + 1 - (intOf i).toNat)
  case atStart => exact ⟨0, _, Nat.zero_le _, rfl, rfl, hid (World.ownsRow_nil _ _ _ _), Below.refl _ _⟩
  case round =>
    obtain ⟨j, v8, hj, rfl, rfl, HO, HB⟩ := hrel
    by_cases hjl : j < t.length + 1
    · have HK1 : Hid (j + 1 ≤ t.length + 1) := hjl
      have HMS : Hid (t.length + 1 - (j + 1) < t.length + 1 - j) := by unfold Hid; omega
      obtain ⟨q, cap', e, hqb, hql, hqc⟩ := row_cell HR3.out rfl (j := j) (by simpa using hjl)
      injection e with e e7 e6
      subst e6
      injection e with e
      injection e with e
      subst e
      have hqc' := (HB.out.cell (p := ⟨qr, j, none⟩) hql).trans hqc
      have hji : (j : Int) < (t.length : Int) + 1 := by omega
      cases j with
      | zero =>
        have hqx : wr.cell? ⟨qr, 0, none⟩ = some (.int .i64 (x : Int)) := hqc'
        clear hqc hqc' hj hjl
        go_wp2
        go_roundw
        case rel => exact ⟨1, v8, HK1.out, rfl, rfl, HO, HB⟩
        case measure => have := HMS.out; simp [intOf]
      | succ i =>
        have hib : (i : Int) ≤ 1048576 := by have := HLT.out; omega
        have hit : i < t.length := by omega
        obtain ⟨y, hy⟩ : ∃ y, y = t[i] := ⟨_, rfl⟩
        have hqx : wr.cell? ⟨qr, i + 1, none⟩ = some (.int .i64 (t[i] : Int)) := hqc'
        rw [← hy] at hqx
        have hyx : y ≠ x := fun e => (List.nodup_cons.1 HND.out).1 (by rw [← e, hy]; exact List.getElem_mem _)
        have hne : ((y : Int) != (x : Int)) = true := by simp; omega
        have ho := HO.out
        rw [Nat.add_sub_cancel] at ho
        obtain ⟨A3, cap3, rfl⟩ := slice_int ho
        obtain ⟨v9, w9, happ, hown9, hg9⟩ := app_int ho (by have := HLT.out; omega) HB.out.size (y : Int)
        have HAPP := hid happ
        have HN9 : Hid (w9.ownsRow w3.heap.size 3 1 v9 (i + 1 + 1 - 1) (rowI (t.take (i + 1 + 1 - 1)))) := by
          unfold Hid
          rw [Nat.add_sub_cancel]
          have h1 : t.take (i + 1) = t.take i ++ [t[i]] := by rw [List.take_add_one, List.getElem?_eq_getElem hit]; rfl
          have h2 : rowI (t.take (i + 1)) = rowI (t.take i) ++ [.int .i64 (y : Int)] := by rw [h1, ← hy]; unfold rowI; simp
          rw [h2]
          exact hown9
        have HB9 : Hid (Below w3.heap.size w3 w9) := below_grown' HB.out hg9 (fun j e => (ho.lt j e).1)
        clear hqc hqc' hj hjl hit hy hyx ho happ hown9 hg9 HO
        go_wp2_with (first | (at_builtin; refine wpList_append_eq rfl _ _ _ rfl rfl rfl HAPP.out ?_))
        go_roundw
        case rel => exact ⟨i + 1 + 1, v9, HK1.out, rfl, by go_num, HN9, HB9⟩
        case measure => have := HMS.out; simp [intOf]; omega
    · obtain rfl : j = t.length + 1 := by omega
      have ho := HO.out
      rw [Nat.add_sub_cancel, List.take_length] at ho
      have HBw := hid (HB3.out.trans (HB.out.mono HB3.out.size))
      have HG := hid (HH.out.below HBw.out)
      obtain ⟨c0, -, -, cf⟩ := HG.out.head
      obtain ⟨-, -, -, -, x4, -⟩ := HG.out.cells HX.out
      have ix : (x : Int) < (s.m : Int) := by have := HX.out; omega
      have HO2 := hid ho
      clear ho HO hj hjl
      have HZ4 := hid ((HB.out.block p3 (lt_of_at HZ3.out)).trans HZ3.out)
      have HK4 := hid ((HB.out.block p6 (lt_of_at HK3.out)).trans HK3.out)
      have HPF : Hid (¬ FootG H g p3 ∧ ¬ FootG H g p6) := by
        have := HP3.out
        refine ⟨?_, ?_⟩ <;> (rintro (e | e) <;> omega)
      cases kl with
      | nil =>
        have e4 : s.ch x = -1 := HCH.out
        rw [e4] at x4
        have HROW : Hid (RowA wr H g v8 (t ++ [])) := by
          rw [List.append_nil]
          refine ⟨row_zero HO2.out, fun k hk => ?_⟩
          have := (HO2.out.lt k hk).1
          have := HB3.out.size
          constructor <;> omega
        have HG9 := HG
        have HBW := HBw
        have HZ9 := HZ4
        have HK9 := HK4
        have HFRL := HFR
        obtain ⟨LL, hLL⟩ : ∃ LL, LL = t ++ ([] : List Nat) := ⟨_, rfl⟩
        rw [← hLL] at HROW HFRL
        clear hLL HG HBw HZ4 HK4 HFR HO2 HZ3 HK3
        go_upto_region 14 with (fail)
        clear x4 c0 cf e4
        obtain ⟨c0, -, c2, cf⟩ := HG9.out.head
        obtain ⟨y0, y1, y2, y3, y4, y5, y6, y7, y8, y9⟩ := HG9.out.cells HX.out
        have gf := HG9.out.free
        have nb : n ≤ 1048576 := by have := hnn.2; have := HM.out; omega
        have nn := hnn.1
        have i6 : IntKind.i64.wrap (n - 1) = n - 1 := IntWalk.i64_in _ (by omega)
        have hne := HG9.out.ne
        have hne' := Ne.symm hne
        have HCL := hid (HG9.out.cleared HX.out)
        go_upto_region 15 with (fail)
        refine wp_name ?_
        intro w10 hw10
        rw [← hw10] at HCL
        have HROW10 := hid (HROW.out.tur HCL.out.2)
        have HT10 := hid ((Tur.of_below (F := FootG H g) HBW.out).then HCL.out.2)
        obtain ⟨d0, -, d2, df⟩ := HCL.out.1.head
        have HZ10 := hid ((HCL.out.2.kept p3 (lt_of_at HZ9.out) HPF.out.1).trans HZ9.out)
        have HK10 := hid ((HCL.out.2.kept p6 (lt_of_at HK9.out) HPF.out.2).trans HK9.out)
        clear hw10 c0 c2 cf y0 y1 y2 y3 y4 y5 y6 y7 y8 y9 gf HROW HZ9 HK9 HG9 HBW
        go_wp2_with fail
        refine (gathered_g LL kids _ (HCL.out.1.setN (n - 1)) (show s.m ≤ 1048576 from HM.out) HFRL.out (HROW10.out.tur tur_h) HCNT.out).mono ?_
        rintro e w11 ⟨rfl, s', least', h11, g11, same11, t11⟩
        have HT11 := hid ((HT10.out.then tur_h).then t11)
        have hz3 := (t11.kept p3 (by simp; exact lt_of_at HZ10.out) HPF.out.1).trans (heap_set_ne (fun e => HPF.out.1 (.inl e)) HZ10.out)
        have hk6 := (t11.kept p6 (by simp; exact lt_of_at HK10.out) HPF.out.2).trans (heap_set_ne (fun e => HPF.out.2 (.inl e)) HK10.out)
        have HZ11 := hid hz3
        have hz0 : w11.cell? ⟨p3, 0, none⟩ = some (.int .u64 0) := (blk_cell hz3 0).trans rfl
        have hz1 : w11.cell? ⟨p3, 1, none⟩ = some (.int .u64 0) := (blk_cell hz3 1).trans rfl
        have hz2 : w11.cell? ⟨p3, 2, none⟩ = some (.int .i64 0) := (blk_cell hz3 2).trans rfl
        have hzf := blk_free hz3
        have hk0 : w11.cell? ⟨p6, 0, none⟩ = some (.int .u64 k0) := (blk_cell hk6 0).trans rfl
        have hk1 : w11.cell? ⟨p6, 1, none⟩ = some (.int .u64 k1) := (blk_cell hk6 1).trans rfl
        have hk2 : w11.cell? ⟨p6, 2, none⟩ = some (.int .i64 k2) := (blk_cell hk6 2).trans rfl
        have HH11 := hid h11
        have HG11 := hid g11
        have HS11 := hid same11
        have h36 : p3 ≠ p6 := by omega
        have h63 := Ne.symm h36
        have hlz := lt_of_at hz3
        clear h11 g11 same11 t11 hz3 hk6 d0 d2 df HT10 HZ10 HK10 HROW10 HCL
        go_wp2
        go_region
        all_goals
          go_wp2
          have hz := HZ11.out
          refine ret_row3 rfl p3 #[.int .u64 k0, .int .u64 k1, .int .i64 k2] 60 _ rfl Try.underlying60 rfl infoK rfl (by apply Exists.intro; refine ⟨?_, ?_⟩; (focus ((repeat (first | (with_reducible assumption) | (with_reducible exact alloc_at _ _) | ((with_reducible apply alloc_at'); (simp; done)) | (with_reducible apply alloc_at_lt) | (with_reducible apply heap_drew_at) | (with_reducible apply heap_drewN_at) | (with_reducible apply heap_setCell_same) | ((with_reducible apply heap_set_ne); (first | omega | (dsimp only; omega) | (simp; done) | (simp; omega))) | (with_reducible apply setRow_at) | ((with_reducible apply setRow_ne); (first | omega | (dsimp only; omega) | (simp; done) | (simp; omega))))))); simp) ⟨rfl, s', least', HH11.out.at ?_ ?_, HG11.out, HS11.out, (((HT11.out.setNew (Nat.le_of_eq HP3.out.symm) _).setNew (Nat.le_of_eq HP3.out.symm) _).setNew (Nat.le_of_eq HP3.out.symm) _).then (Tur.drew_ _ _)⟩
          · rw [heap_drew, heap_setCell_other _ _ _ _ (fun e => HPF.out.1 (.inl e.symm)), heap_setCell_other _ _ _ _ (fun e => HPF.out.1 (.inl e.symm)), heap_setCell_other _ _ _ _ (fun e => HPF.out.1 (.inl e.symm))]
          · rw [heap_drew, heap_setCell_other _ _ _ _ (fun e => HPF.out.1 (.inr e.symm)), heap_setCell_other _ _ _ _ (fun e => HPF.out.1 (.inr e.symm)), heap_setCell_other _ _ _ _ (fun e => HPF.out.1 (.inr e.symm))]
      | cons c kt =>
        have e4 : s.ch x = (c : Int) := HCH.out
        rw [e4] at x4
        have hcne : ((c : Int) != -1) = true := by simp
        clear e4
        go_wp2_with fail
        refine (ring_g c kt HG.out HM.out HRK.out HNDK.out HLTK.out).mono ?_
        rintro e w4 ⟨v4, rfl, hrow4, hb4⟩
        obtain ⟨q4, cap4, rfl, hq4b, -, -⟩ := row_cell hrow4 rfl (j := 0) (by simp)
        have ho8 := row_at HO2.out hb4
        have hkl : kt.length + 1 ≤ 1048576 := Nat.le_trans (nodup_le s.m (c :: kt) HNDK.out HLTK.out) HM.out
        have B4 := HBw.out.trans (hb4.mono HBw.out.size)
        obtain ⟨A8, cap8, rfl⟩ := slice_int ho8
        obtain ⟨v5, w5, happ, hown5, hg5⟩ := app_ints (c := cap4) (news := rowI (c :: kt)) (m := kt.length + 1) (a := ⟨q4, 0, none⟩) ho8 (by simp [rowI]) (hrow4.cells rfl) (rowI_one _) (by have := HLT.out; omega) (Nat.le_trans HB.out.size hb4.size)
        have HAPP := hid happ
        have b35 : Below w3.heap.size w4 w5 := below_grown hg5 (Nat.le_trans HB.out.size hb4.size) (fun j e => (ho8.lt j e).1)
        have B35 : Below w3.heap.size w3 w5 := (HB.out.trans (hb4.mono HB.out.size)).trans b35
        have HBW := hid (HB3.out.trans (B35.mono HB3.out.size))
        have HG9 := hid (HH.out.below HBW.out)
        have HZ9 := hid ((b35.block p3 (lt_of_at HZ3.out)).trans ((hb4.block p3 (lt_of_at HZ4.out)).trans HZ4.out))
        have HK9 := hid ((b35.block p6 (lt_of_at HK3.out)).trans ((hb4.block p6 (lt_of_at HK4.out)).trans HK4.out))
        have HROW : Hid (RowA w5 H g v5 (t ++ (c :: kt))) := by
          refine ⟨?_, fun k hk => ?_⟩
          · have := row_zero hown5
            rw [List.length_append, List.length_cons]
            have e : rowI (t ++ c :: kt) = rowI t ++ rowI (c :: kt) := by unfold rowI; rw [List.map_append]
            rw [e]
            exact this
          · have := (hown5.lt k hk).1
            have := HB3.out.size
            constructor <;> omega
        have HFRL := HFR
        obtain ⟨LL, hLL⟩ : ∃ LL, LL = t ++ c :: kt := ⟨_, rfl⟩
        rw [← hLL] at HROW HFRL
        clear hLL HG HBw HZ4 HK4 HFR HO2 c0 cf x4 hcne hrow4 hb4 hq4b ho8 hkl B4 happ hown5 hg5 b35 B35 HZ3 HK3
        go_upto_region 14 with (at_builtin; refine wpList_append_eq rfl _ _ _ rfl rfl rfl HAPP.out ?_)
        obtain ⟨c0, -, c2, cf⟩ := HG9.out.head
        obtain ⟨y0, y1, y2, y3, y4, y5, y6, y7, y8, y9⟩ := HG9.out.cells HX.out
        have gf := HG9.out.free
        have nb : n ≤ 1048576 := by have := hnn.2; have := HM.out; omega
        have nn := hnn.1
        have i6 : IntKind.i64.wrap (n - 1) = n - 1 := IntWalk.i64_in _ (by omega)
        have hne := HG9.out.ne
        have hne' := Ne.symm hne
        have HCL := hid (HG9.out.cleared HX.out)
        go_upto_region 15 with (fail)
        refine wp_name ?_
        intro w10 hw10
        rw [← hw10] at HCL
        have HROW10 := hid (HROW.out.tur HCL.out.2)
        have HT10 := hid ((Tur.of_below (F := FootG H g) HBW.out).then HCL.out.2)
        obtain ⟨d0, -, d2, df⟩ := HCL.out.1.head
        have HZ10 := hid ((HCL.out.2.kept p3 (lt_of_at HZ9.out) HPF.out.1).trans HZ9.out)
        have HK10 := hid ((HCL.out.2.kept p6 (lt_of_at HK9.out) HPF.out.2).trans HK9.out)
        clear hw10 c0 c2 cf y0 y1 y2 y3 y4 y5 y6 y7 y8 y9 gf HROW HZ9 HK9 HG9 HBW
        go_wp2_with fail
        refine (gathered_g LL kids _ (HCL.out.1.setN (n - 1)) (show s.m ≤ 1048576 from HM.out) HFRL.out (HROW10.out.tur tur_h) HCNT.out).mono ?_
        rintro e w11 ⟨rfl, s', least', h11, g11, same11, t11⟩
        have HT11 := hid ((HT10.out.then tur_h).then t11)
        have hz3 := (t11.kept p3 (by simp; exact lt_of_at HZ10.out) HPF.out.1).trans (heap_set_ne (fun e => HPF.out.1 (.inl e)) HZ10.out)
        have hk6 := (t11.kept p6 (by simp; exact lt_of_at HK10.out) HPF.out.2).trans (heap_set_ne (fun e => HPF.out.2 (.inl e)) HK10.out)
        have HZ11 := hid hz3
        have hz0 : w11.cell? ⟨p3, 0, none⟩ = some (.int .u64 0) := (blk_cell hz3 0).trans rfl
        have hz1 : w11.cell? ⟨p3, 1, none⟩ = some (.int .u64 0) := (blk_cell hz3 1).trans rfl
        have hz2 : w11.cell? ⟨p3, 2, none⟩ = some (.int .i64 0) := (blk_cell hz3 2).trans rfl
        have hzf := blk_free hz3
        have hk0 : w11.cell? ⟨p6, 0, none⟩ = some (.int .u64 k0) := (blk_cell hk6 0).trans rfl
        have hk1 : w11.cell? ⟨p6, 1, none⟩ = some (.int .u64 k1) := (blk_cell hk6 1).trans rfl
        have hk2 : w11.cell? ⟨p6, 2, none⟩ = some (.int .i64 k2) := (blk_cell hk6 2).trans rfl
        have HH11 := hid h11
        have HG11 := hid g11
        have HS11 := hid same11
        have h36 : p3 ≠ p6 := by omega
        have h63 := Ne.symm h36
        have hlz := lt_of_at hz3
        clear h11 g11 same11 t11 hz3 hk6 d0 d2 df HT10 HZ10 HK10 HROW10 HCL
        go_wp2
        go_region
        all_goals
          go_wp2
          have hz := HZ11.out
          refine ret_row3 rfl p3 #[.int .u64 k0, .int .u64 k1, .int .i64 k2] 60 _ rfl Try.underlying60 rfl infoK rfl (by apply Exists.intro; refine ⟨?_, ?_⟩; (focus ((repeat (first | (with_reducible assumption) | (with_reducible exact alloc_at _ _) | ((with_reducible apply alloc_at'); (simp; done)) | (with_reducible apply alloc_at_lt) | (with_reducible apply heap_drew_at) | (with_reducible apply heap_drewN_at) | (with_reducible apply heap_setCell_same) | ((with_reducible apply heap_set_ne); (first | omega | (dsimp only; omega) | (simp; done) | (simp; omega))) | (with_reducible apply setRow_at) | ((with_reducible apply setRow_ne); (first | omega | (dsimp only; omega) | (simp; done) | (simp; omega))))))); simp) ⟨rfl, s', least', HH11.out.at ?_ ?_, HG11.out, HS11.out, (((HT11.out.setNew (Nat.le_of_eq HP3.out.symm) _).setNew (Nat.le_of_eq HP3.out.symm) _).setNew (Nat.le_of_eq HP3.out.symm) _).then (Tur.drew_ _ _)⟩
          · rw [heap_drew, heap_setCell_other _ _ _ _ (fun e => HPF.out.1 (.inl e.symm)), heap_setCell_other _ _ _ _ (fun e => HPF.out.1 (.inl e.symm)), heap_setCell_other _ _ _ _ (fun e => HPF.out.1 (.inl e.symm))]
          · rw [heap_drew, heap_setCell_other _ _ _ _ (fun e => HPF.out.1 (.inr e.symm)), heap_setCell_other _ _ _ _ (fun e => HPF.out.1 (.inr e.symm)), heap_setCell_other _ _ _ _ (fun e => HPF.out.1 (.inr e.symm))]
theorem pop_some {x : Nat} (h : HeapG B w H g cap s least n) (hg : Good s least n) (hl : least = (x : Int) + 1) (hn : 0 < n) :
    Calls Try.prog 25 #[.pointer (some ⟨H, 0, none⟩)] w fun e w' => e = .returned (.tuple #[.int .i64 x, keyV (s.key x), .int .i64 0]) ∧ ∃ s' least', HeapG B w' H g cap s' least' (n - 1) ∧ Good s' least' (n - 1) ∧ SameK (s.clear x) s' ∧ Tur (FootG H g) w w' := pop_any h hg.1 hg.nn (hg.popped hl) hl hn
end Go.Proofs.Yteccpjijlkjneaa
