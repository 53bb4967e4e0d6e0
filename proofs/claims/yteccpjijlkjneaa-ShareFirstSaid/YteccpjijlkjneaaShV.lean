/- Chapter 15: the reference's Order. -/
import Derived.Test.YteccpjijlkjneaaShQ
import Derived.Test.YteccpjijlkjneaaRws
import Derived.BigQuiet
import Derived.Deep.QuietTactic
import Derived.Deep.RegionHeld3
namespace Go.Proofs.Yteccpjijlkjneaa
open Go.RowKit Go.WideShapes
variable {B H H2 bw : Nat} {w w' wr : World}
def fU (u : Us) : Nat → Value
  | 0 => .string u.name
  | 1 => .int .i64 u.wt
  | 2 => .int .i64 u.a
  | 3 => .int .i64 u.b
  | 4 => .int .i64 u.c
  | _ => .int .i64 u.d
theorem fU_one (u : Us) (c : Nat) : (fU u c).oneCell' = true := by unfold fU; split <;> rfl
theorem fU_range (u : Us) : (List.range 6).map (fU u) = [.string u.name, .int .i64 u.wt, .int .i64 u.a, .int .i64 u.b, .int .i64 u.c, .int .i64 u.d] := rfl
theorem recU : RecT 67 31 6 56 Try.prog := recT_of Try.underlying31 (by kernel_rfl) (by kernel_rfl)
/-- A row with a gap at k. -/
def gap {α : Type} (T : List α) (k : Nat) (y : α) : List α := T.take k ++ y :: T.drop k
section
variable {α : Type} {T : List α} {k j : Nat} {x y t : α}
theorem gap_len (hk : k ≤ T.length) : (gap T k y).length = T.length + 1 := by unfold gap; simp; omega
theorem gap_all : gap T T.length y = T ++ [y] := by unfold gap; simp
theorem gap_lt (hk : k ≤ T.length) (hj : j < k) : (gap T k y)[j]? = T[j]? := by
  unfold gap
  rw [List.getElem?_append_left (by simp; omega), List.getElem?_take, if_pos hj]
theorem gap_set (hk : k ≤ T.length) : (gap T k y).set k x = gap T k x := by
  unfold gap
  rw [List.set_append_right (s := T.take k) k x (by simp; omega)]
  simp [hk]
theorem gap_next (h : T[k]? = some t) : (gap T (k + 1) y).set (k + 1) t = gap T k t := by
  obtain ⟨hk, e⟩ := List.getElem?_eq_some_iff.1 h
  rw [gap_set (by omega)]
  unfold gap
  rw [List.take_add_one, h, List.drop_eq_getElem_cons hk, e]
  simp
theorem gap_perm : (gap T k x).Perm (x :: T) := by
  unfold gap
  have := List.perm_middle (a := x) (l₁ := T.take k) (l₂ := T.drop k)
  rw [List.take_append_drop] at this
  exact this
end
theorem nodup_more {l : List Us} {i : Nat} {u : Us} (hu : l[i]? = some u) (h : (nmK (l.take i)).Nodup) (hn : ∀ j v, j < i → l[j]? = some v → ky v.name ≠ ky u.name) : (nmK (l.take (i + 1))).Nodup := by
  rw [nmK_take hu]
  refine List.nodup_append.2 ⟨h, by simp, fun a ha b hb => ?_⟩
  rw [List.mem_singleton] at hb
  subst hb
  unfold nmK at ha
  obtain ⟨v, hv, rfl⟩ := List.mem_map.1 ha
  obtain ⟨j, hj, rfl⟩ := List.mem_iff_getElem.1 hv
  rw [List.length_take] at hj
  rw [List.getElem_take]
  exact hn j _ (by omega) (List.getElem?_eq_getElem (by omega))
theorem nodup_less {l : List Us} {i j : Nat} {u v : Us} (hu : l[i]? = some u) (hv : l[j]? = some v) (hij : j < i) (e : ky v.name = ky u.name) : ¬ (nmK l).Nodup := by
  intro h
  obtain ⟨hi, e1⟩ := List.getElem?_eq_some_iff.1 hu
  obtain ⟨hj, e2⟩ := List.getElem?_eq_some_iff.1 hv
  have h3 : (nmK l)[j]'(by unfold nmK; simpa using hj) = (nmK l)[i]'(by unfold nmK; simpa using hi) := by
    simp only [nmK, List.getElem_map, e1, e2, e]
  have := (List.getElem_inj h).1 h3
  omega
theorem take_perm {l L : List Us} {i : Nat} {u : Us} (hu : l[i]? = some u) (h : L.Perm (l.take i)) (k : Nat) : (gap L k u).Perm (l.take (i + 1)) := by
  rw [List.take_add_one, hu]
  refine gap_perm.trans ?_
  exact ((List.Perm.cons u h).trans (by
    have := (List.perm_append_comm (l₁ := [u]) (l₂ := l.take i))
    simpa using this))
theorem name_ne {l L : List Us} {i : Nat} {u t : Us} (hu : l[i]? = some u) (hp : L.Perm (l.take i)) (hn : (nmK (l.take (i + 1))).Nodup) (ht : t ∈ L) : ky t.name ≠ ky u.name := by
  rw [nmK_take hu] at hn
  obtain ⟨-, -, h⟩ := List.nodup_append.1 hn
  exact h _ (by unfold nmK; exact List.mem_map_of_mem (hp.mem_iff.1 ht)) _ (by simp)
abbrev stU (X : World) (g o : Nat) (u : Us) : World := (((((X.setCell ⟨g, o, none⟩ (.string u.name)).setCell ⟨g, o + 1, none⟩ (.int .i64 u.wt)).setCell ⟨g, o + 2, none⟩ (.int .i64 u.a)).setCell ⟨g, o + 3, none⟩ (.int .i64 u.b)).setCell ⟨g, o + 4, none⟩ (.int .i64 u.c)).setCell ⟨g, o + 5, none⟩ (.int .i64 u.d)
theorem gap_store {L : List Us} {d n g cap : Nat} {y : Us} {X : World} {T : TypeId} (hr : X.ownsRow B T 6 (.slice (some ⟨g, 0, none⟩) n cap) n (flatR 6 fU (gap L d y))) (hd : d ≤ L.length) (u : Us) :
    (stU X g (d * 6) u).ownsRow B T 6 (.slice (some ⟨g, 0, none⟩) n cap) n (flatR 6 fU (gap L d u)) ∧ Below B X (stU X g (d * 6) u) := by
  have h1 := rowR_set hr (i := d) (by rw [gap_len hd]; omega) u
  rw [gap_set hd] at h1
  have hg := hr.lt g rfl
  exact ⟨h1.1, Below.grown (Below.refl _ _) h1.2 (Nat.le_trans hg.1 (Nat.le_of_lt hg.2)) (fun j e => by injection e with e; omega)⟩
set_option maxRecDepth 100000 in
set_option maxHeartbeats 16000000 in
theorem rorder_any {A : Option Addr} {n cap : Nat} {l : List Us} (W : V4) (h : SlU w A n l) (hn : n ≤ 1000) :
    Calls Try.prog 10 #[.agg (vI W), .slice A n cap] w fun e w' => OrdP W l w.heap.size e w' ∧ Below w.heap.size w w' := by
  have HS := hid h
  have HL : Hid (n = l.length) := h.1
  have hnb : (n : Int) ≤ 1000 := by omega
  have HN := hid hn
  have HPS : Hid (∀ (u : Us) (p q z : Int), sh W u = ((p, q), z) → ∀ X, Calls Try.prog 26 #[.agg #[.int .i64 u.a, .int .i64 u.b, .int .i64 u.c, .int .i64 u.d], .agg (vI W), .int .i64 u.wt] X fun e w' => e = .returned (.tuple #[.agg #[.int .u64 p, .int .u64 q], .int .i64 z]) ∧ Below X.heap.size X w') := fun u p q z hr X => by
    have := rshare_any u.a u.b u.c u.d W.1 W.2.1 W.2.2.1 W.2.2.2 u.wt X
    unfold sh at hr
    rw [hr] at this
    exact this
  have HBE : Hid (∀ (x y : Us), (sh W x).2 = 0 → (sh W y).2 = 0 → ∀ X, Calls Try.prog 27 #[.agg (vI W), .agg #[.string x.name, .int .i64 x.wt, .int .i64 x.a, .int .i64 x.b, .int .i64 x.c, .int .i64 x.d], .agg #[.string y.name, .int .i64 y.wt, .int .i64 y.a, .int .i64 y.b, .int .i64 y.c, .int .i64 y.d]] X fun e w' => e = .returned (.bool (decide (befI W x y))) ∧ Below X.heap.size X w') := fun x y hx hy X => before_any W x y hx hy X
  obtain ⟨Wa, Wb, Wc, Wd⟩ := W
  obtain ⟨W, hW⟩ : ∃ W : V4, W = (Wa, Wb, Wc, Wd) := ⟨_, rfl⟩
  rw [← hW] at HPS HBE ⊢
  have HW := hid hW
  have hvI : vI W = #[.int .i64 Wa, .int .i64 Wb, .int .i64 Wc, .int .i64 Wd] := by rw [hW]
  rw [hvI] at HPS HBE ⊢
  clear h hn hW
  go_enter Try.func10, Try.ntmps10
  go_upto_region 1 with (fail)
  refine wp_name ?_
  intro w1 hw1
  have b1 : Below w.heap.size w w1 := by rw [hw1]; exact (by repeat (first | with_reducible assumption | with_reducible exact Below.refl _ _ | with_reducible refine Below.drew ?_ | with_reducible refine below_drewN ?_ _ | with_reducible refine below_alloc ?_ _ | with_reducible refine Below.alloc ?_ (by first | omega | (simp; done) | (simp; omega)) _ | with_reducible refine Below.setCell ?_ (by first | omega | (simp; done) | (simp; omega)) _ | with_reducible refine below_setRow ?_ (by first | omega | (simp; done) | (simp; omega)) _))
  have X1 : w1.heap[w.heap.size]? = some (.cells #[.int .i64 Wa, .int .i64 Wb, .int .i64 Wc, .int .i64 Wd] 23 (0, 0)) := by rw [hw1]; exact at_of (by apply Exists.intro; refine ⟨?_, ?_⟩; (focus ((repeat (first | (with_reducible assumption) | (with_reducible exact alloc_at _ _) | ((with_reducible apply alloc_at'); (simp; done)) | (with_reducible apply alloc_at_lt) | (with_reducible apply heap_drew_at) | (with_reducible apply heap_drewN_at) | (with_reducible apply heap_setCell_same) | ((with_reducible apply heap_set_ne); (first | omega | (dsimp only; omega) | (simp; done) | (simp; omega))) | (with_reducible apply setRow_at) | ((with_reducible apply setRow_ne); (first | omega | (dsimp only; omega) | (simp; done) | (simp; omega))))))); simp)
  rw [← hvI] at X1
  obtain ⟨bw, hbw⟩ : ∃ x, x = w.heap.size := ⟨_, rfl⟩
  obtain ⟨B1, hB1⟩ : ∃ x, x = w1.heap.size := ⟨_, rfl⟩
  have HI1 : Hid (Ld w bw B1 W w1 ∧ fstE W (l.take 0) = 0) :=
    ⟨⟨⟨by rw [hbw, hB1]; exact lt_of_at X1, by rw [hB1]; exact b1.size⟩, b1, by rw [hbw]; exact X1, by rw [hB1]; exact Nat.le_refl _⟩, rfl⟩
  rw [← hbw]
  clear hw1 b1 X1 hbw hB1
  go_wp2_with fail
  go_loopw [6] (fun iv wr => ∃ i : Nat, i ≤ n ∧ iv = .int .i64 i ∧ Hid (Ld w bw B1 W wr ∧ fstE W (l.take i) = 0)) (fun iv _ => n - (intOf iv).toNat)
  case atStart => exact ⟨0, Nat.zero_le _, rfl, HI1⟩
  case round =>
    clear HI1
    obtain ⟨i, hi, rfl, HI⟩ := hrel
    by_cases hin : i < n
    · have HK1 : Hid (i + 1 ≤ n) := hin
      have HMS : Hid (n - (i + 1) < n - i) := by unfold Hid; omega
      have hii : (i : Int) < (n : Int) := by omega
      have hib : (i : Int) ≤ 1000 := by omega
      obtain ⟨u, hu⟩ : ∃ u, l[i]? = some u := ⟨_, List.getElem?_eq_getElem (by have := HL.out; omega)⟩
      have HU := hid hu
      obtain ⟨⟨⟨p, q⟩, z⟩, hr⟩ : ∃ r, sh W u = r := ⟨_, rfl⟩
      have HR := hid hr
      have HP := hid (HPS.out u p q z hr)
      obtain ⟨b, off, rfl, hbr, c0, c1, c2, c3, c4, c5⟩ := HS.out.one HI.out.1.bel hu
      have hlw := lt_of_at HI.out.1.whole
      have Y2 := HI.out.1.whole
      rw [hvI] at Y2
      obtain ⟨y0, y1, y2, y3, -⟩ := four Y2
      have hl2 := lt_of_at Y2
      have HI0 := hid HI.out
      clear hr hu hi hin Y2 HI
      go_upto_region 4 with (fail)
      go_region_held3 (fun w' => Below wr.heap.size wr w' ∧ (∀ b o, b < wr.heap.size → w'.cell? ⟨b, o, none⟩ = wr.cell? ⟨b, o, none⟩) ∧ ∀ b o, b < wr.heap.size → w'.frozen? ⟨b, o, none⟩ = wr.frozen? ⟨b, o, none⟩) (first | ((try go_split_ands); (try dsimp only); refine same_of ?_; (repeat (first | with_reducible assumption | with_reducible exact Below.refl _ _ | with_reducible refine Below.drew ?_ | with_reducible refine below_drewN ?_ _ | with_reducible refine below_alloc ?_ _ | with_reducible refine Below.alloc ?_ (by first | omega | (simp; done) | (simp; omega)) _ | with_reducible refine Below.setCell ?_ (by first | omega | (simp; done) | (simp; omega)) _ | with_reducible refine below_setRow ?_ (by first | omega | (simp; done) | (simp; omega)) _)); done) | ((try go_split_ands); (try dsimp only); refine same_of ?_; (repeat (first | with_reducible refine below_call ?_ hb4 | with_reducible assumption | with_reducible exact Below.refl _ _ | with_reducible refine Below.drew ?_ | with_reducible refine below_alloc ?_ _ | with_reducible refine Below.setCell ?_ (by (try have qz_hb4 := hb4.size); (try simp only [World.size_alloc, World.size_setCell, heap_drew] at qz_hb4); (try (obtain ⟨qy_hb4, -, -⟩ : Below _ _ w4 ∧ _ ∧ _ := by assumption; have qx_hb4 := qy_hb4.size)); first | omega | (dsimp only; omega)) _)); done)) ((go_at_call 26; refine (HP.out _).mono ?_; rintro e w4 ⟨rfl, hb4⟩; obtain ⟨hc4, hf4⟩ := bcell hb4))
      all_goals
        obtain ⟨hb5, -, -⟩ : Below wr.heap.size wr _ ∧ _ ∧ _ := by assumption
        have HB5 := hid hb5
        clear c0 c1 c2 c3 c4 c5 y0 y1 y2 y3 hb5
        by_cases hz : z = 0
        · subst hz
          have HI5 := hid (HI0.out.1.below HB5.out)
          have HF5 : Hid (fstE W (l.take (i + 1)) = 0) := by unfold Hid; rw [fstE_take HU.out, HI0.out.2, if_neg (fun q => q rfl), HR.out]
          clear HI0 HB5
          go_wp2
          go_roundw
          case rel => exact ⟨i + 1, HK1.out, by go_num, ⟨HI5.out, HF5.out⟩⟩
          case measure => have := HMS.out; simp [intOf]; omega
        · have hz' : (z == 0) = false := by simpa using hz
          have hz2 : (z != 0) = true := by simpa using hz
          have F : errO W l = z := errO_fst (by have := fstE_bad HU.out HI0.out.2 (by rw [HR.out]; exact hz); rw [HR.out] at this; exact this) hz
          have FIN := hid (And.intro F (And.intro hz (HI0.out.1.below HB5.out).bel))
          clear F hz HI0 HB5
          go_wp2
          go_ret2
          refine ⟨.inl ⟨by rw [FIN.out.1]; exact FIN.out.2.1, by rw [FIN.out.1]; rfl⟩, ?_⟩
          exact FIN.out.2.2
    · obtain rfl : i = n := by omega
      have hii : ¬ (i : Int) < (i : Int) := by omega
      have hf0 : fstE W l = 0 := by
        have := HI.out.2
        rw [List.take_of_length_le (by have := HL.out; omega)] at this
        exact this
      have HF0 := hid hf0
      have HOK : Hid (∀ u ∈ l, (sh W u).2 = 0) := fstE_zero.1 hf0
      have HRA : Hid (Ld w bw B1 W wr ∧ wr.ownsRow B1 67 6 (.slice none 0 0) 0 (flatR 6 fU []) ∧ ([] : List Us).Perm (l.take 0) ∧ ([] : List Us).Pairwise (befI W) ∧ (nmK (l.take 0)).Nodup) :=
        ⟨HI.out.1, World.ownsRow_nil _ _ _ _, by simp, List.Pairwise.nil, by simp [nmK]⟩
      clear hf0 HI hi hin
      go_wp2_with fail
      go_loopw [9, 10] (fun sv jv wr => ∃ (j : Nat) (L : List Us) (v : Value), j ≤ i ∧ v = sv ∧ jv = .int .i64 j ∧ Hid (Ld w bw B1 W wr ∧ wr.ownsRow B1 67 6 v j (flatR 6 fU L) ∧ L.Perm (l.take j) ∧ L.Pairwise (befI W) ∧ (nmK (l.take j)).Nodup)) (fun _ jv _ => i - (intOf jv).toNat)
      case atStart => exact ⟨0, [], _, Nat.zero_le _, rfl, rfl, HRA⟩
      case round =>
        clear HRA
        obtain ⟨j, L, v, hj, rfl, rfl, HI⟩ := hrel
        obtain ⟨A3, cap3, rfl⟩ := rowR_shape HI.out.2.1
        by_cases hjn : j < i
        · have HJ1 : Hid (j + 1 ≤ i) := hjn
          have HMS : Hid (i - (j + 1) < i - j) := by unfold Hid; omega
          have hjj : (j : Int) < (i : Int) := by omega
          have hjb : (j : Int) ≤ 1000 := by omega
          have HJB : Hid (j ≤ 1000) := by unfold Hid; omega
          obtain ⟨u, hu⟩ : ∃ u, l[j]? = some u := ⟨_, List.getElem?_eq_getElem (by have := HL.out; omega)⟩
          have HU := hid hu
          have HUL : Hid (u ∈ l) := List.mem_of_getElem? hu
          rename World => wo
          have HD0 : Hid ((∀ k v, k < 0 → l[k]? = some v → ky v.name ≠ ky u.name) ∧ Below wo.heap.size wo wo) := ⟨fun k v hk => by omega, Below.refl _ _⟩
          clear hj hjn hu
          go_wp2_with fail
          go_loopw [11] (fun kv wr => ∃ k : Nat, k ≤ j ∧ kv = .int .i64 k ∧ Hid ((∀ k' v, k' < k → l[k']? = some v → ky v.name ≠ ky u.name) ∧ Below wo.heap.size wo wr)) (fun kv _ => j - (intOf kv).toNat)
          case atStart => exact ⟨0, Nat.zero_le _, rfl, HD0⟩
          case round =>
            clear HD0
            obtain ⟨k, hk, rfl, HD⟩ := hrel
            by_cases hkj : k < j
            · have HK1 : Hid (k + 1 ≤ j) := hkj
              have HMK : Hid (j - (k + 1) < j - k) := by unfold Hid; omega
              have hkk : (k : Int) < (j : Int) := by omega
              have hki : (k : Int) < (i : Int) := by omega
              have hkb : (k : Int) ≤ 1000 := by omega
              obtain ⟨t, ht⟩ : ∃ t, l[k]? = some t := ⟨_, List.getElem?_eq_getElem (by have := HL.out; omega)⟩
              have HT := hid ht
              have hbel := HI.out.1.bel.trans (HD.out.2.mono HI.out.1.bel.size)
              obtain ⟨b, off, rfl, hbr, c0, -⟩ := HS.out.one hbel ht
              obtain ⟨b', off', e, -, d0, -⟩ := HS.out.one hbel HU.out
              injection e with e
              injection e with e1 e2
              subst e1 e2
              have HKJ := hid hkj
              clear ht hbel hk hkj
              by_cases hq : ky t.name = ky u.name
              · have hnm : t.name = u.name := ky_inj hq
                rw [hnm] at c0
                have heq : (u.name.toList == u.name.toList) = true := by simp
                have F : errO W l = 5 := errO_dup HF0.out (nodup_less HU.out HT.out HKJ.out hq)
                have FIN : Hid (errO W l = 5 ∧ ∀ X, Below wr.heap.size wr X → Below w.heap.size w X) := ⟨F, fun X hb => (HI.out.1.bel.trans (HD.out.2.mono HI.out.1.bel.size)).trans (hb.mono (Nat.le_trans HI.out.1.bel.size HD.out.2.size))⟩
                clear F hq HI HD
                go_upto_region 14 with (fail)
                go_quiet (fail)
                go_wp2
                go_ret2
                exact ⟨.inl ⟨by rw [FIN.out.1]; decide, by rw [FIN.out.1]; rfl⟩, FIN.out.2 _ (by repeat (first | with_reducible assumption | with_reducible exact Below.refl _ _ | with_reducible refine Below.drew ?_ | with_reducible refine below_drewN ?_ _ | with_reducible refine below_alloc ?_ _ | with_reducible refine Below.alloc ?_ (by first | omega | (simp; done) | (simp; omega)) _ | with_reducible refine Below.setCell ?_ (by first | omega | (simp; done) | (simp; omega)) _ | with_reducible refine below_setRow ?_ (by first | omega | (simp; done) | (simp; omega)) _))⟩
              · have heq : (t.name.toList == u.name.toList) = false := by
                  rw [beq_eq_false_iff_ne]
                  intro e
                  exact hq (by simpa [Go.Lib.toList_data] using e)
                have HD2 : Hid (∀ X, Below wr.heap.size wr X → (∀ k' v, k' < k + 1 → l[k']? = some v → ky v.name ≠ ky u.name) ∧ Below wo.heap.size wo X) := fun X hb => ⟨fun k' v hk' hv => by
                  by_cases e : k' = k
                  · subst e
                    rw [HT.out] at hv
                    injection hv with hv
                    rw [← hv]; exact hq
                  · exact HD.out.1 k' v (by omega) hv, HD.out.2.trans (hb.mono HD.out.2.size)⟩
                clear hq HD
                go_upto_region 14 with (fail)
                go_quiet (fail)
                go_wp2
                go_roundw
                case rel => exact ⟨k + 1, HK1.out, by go_num, HD2.out _ (by repeat (first | with_reducible assumption | with_reducible exact Below.refl _ _ | with_reducible refine Below.drew ?_ | with_reducible refine below_drewN ?_ _ | with_reducible refine below_alloc ?_ _ | with_reducible refine Below.alloc ?_ (by first | omega | (simp; done) | (simp; omega)) _ | with_reducible refine Below.setCell ?_ (by first | omega | (simp; done) | (simp; omega)) _ | with_reducible refine below_setRow ?_ (by first | omega | (simp; done) | (simp; omega)) _))⟩
                case measure => have := HMK.out; simp [intOf]; omega
            · obtain rfl : k = j := by omega
              have hkk : ¬ (k : Int) < (k : Int) := by omega
              have HI2 : Hid (Ld w bw B1 W wr ∧ wr.ownsRow B1 67 6 (.slice A3 k cap3) k (flatR 6 fU L) ∧ L.Perm (l.take k) ∧ L.Pairwise (befI W) ∧ (nmK (l.take (k + 1))).Nodup) :=
                ⟨HI.out.1.below HD.out.2, rowR_below HI.out.2.1 HD.out.2, HI.out.2.2.1, HI.out.2.2.2.1, nodup_more HU.out HI.out.2.2.2.2 HD.out.1⟩
              clear hk hkj HI HD
              obtain ⟨b, off, rfl, hbr, c0, c1, c2, c3, c4, c5⟩ := HS.out.one HI2.out.1.bel HU.out
              have hll := rowR_len HI2.out.2.1 (by omega)
              have hb0 : Below wr.heap.size wr (wr.alloc (.cells #[.string u.name, .int .i64 u.wt, .int .i64 u.a, .int .i64 u.b, .int .i64 u.c, .int .i64 u.d] 67)) := (by repeat (first | with_reducible assumption | with_reducible exact Below.refl _ _ | with_reducible refine Below.drew ?_ | with_reducible refine below_drewN ?_ _ | with_reducible refine below_alloc ?_ _ | with_reducible refine Below.alloc ?_ (by first | omega | (simp; done) | (simp; omega)) _ | with_reducible refine Below.setCell ?_ (by first | omega | (simp; done) | (simp; omega)) _ | with_reducible refine below_setRow ?_ (by first | omega | (simp; done) | (simp; omega)) _))
              have ha : (wr.alloc (.cells #[.string u.name, .int .i64 u.wt, .int .i64 u.a, .int .i64 u.b, .int .i64 u.c, .int .i64 u.d] 67)).heap[wr.heap.size]? = some (.cells #[.string u.name, .int .i64 u.wt, .int .i64 u.a, .int .i64 u.b, .int .i64 u.c, .int .i64 u.d] 67 (0, 0)) := alloc_at wr _
              have happ := rowR_app (m := [u]) (f := fU) recU (by omega) fU_one (rowR_below HI2.out.2.1 hb0) (by have := HJB.out; simp; omega) (by have := HJB.out; simp; omega) (Nat.le_trans HI2.out.1.sz hb0.size) ⟨wr.heap.size, 0, none⟩ 1 (by simp) (fun o x hx => by
                have ho : o < 6 := by
                  have := (List.getElem?_eq_some_iff.1 hx).1
                  rw [flatR_len] at this
                  simpa using this
                have e0 : (⟨wr.heap.size, 0, none⟩ : Addr).add o = ⟨wr.heap.size, o, none⟩ := by unfold Addr.add; split <;> simp_all
                rw [e0, blk_cell ha, ← hx, flatR_one, fU_range]
                simp)
              obtain ⟨g, cap4, w4, happ, hown, hG4, hat4, hgl4, hb4⟩ := happ
              have hb4' : Below B1 wr w4 := (hb0.mono HI2.out.1.sz).trans hb4
              have HAPP := hid happ
              have HI4 : Hid (Ld w bw B1 W w4 ∧ w4.ownsRow B1 67 6 (.slice (some ⟨g, 0, none⟩) (k + 1) cap4) (k + 1) (flatR 6 fU (gap L k u)) ∧ ∀ x ∈ L.drop k, befI W u x) := by
                refine ⟨HI2.out.1.next hb4', ?_, fun x hx => ?_⟩
                · rw [← hll, gap_all, hll]; exact hown
                · rw [← hll, List.drop_length] at hx; cases hx
              have HL2 : Hid (L.Perm (l.take k) ∧ L.Pairwise (befI W) ∧ (nmK (l.take (k + 1))).Nodup ∧ L.length = k ∧ ∀ x ∈ L, (sh W x).2 = 0) := ⟨HI2.out.2.2.1, HI2.out.2.2.2.1, HI2.out.2.2.2.2, hll, fun x hx => HOK.out x (List.mem_of_mem_take (HI2.out.2.2.1.mem_iff.1 hx))⟩
              clear hb0 ha happ hown hG4 hat4 hgl4 hb4 hb4' HI2 hll
              go_wp2_with (first | (at_builtin; refine wpList_append_eq rfl _ _ _ rfl rfl rfl HAPP.out ?_))
              have hlk : L.length = k := HL2.out.2.2.2.1
              have HI5 : Hid (Ld w bw B1 W w4 ∧ w4.ownsRow B1 67 6 (.slice (some ⟨g, 0, none⟩) (k + 1) cap4) (k + 1) (flatR 6 fU (gap L k u)) ∧ ∀ x ∈ L.drop k, befI W u x) := HI4.out
              have HDONE : Hid (∀ X d y, d ≤ k → Ld w bw B1 W X → X.ownsRow B1 67 6 (.slice (some ⟨g, 0, none⟩) (k + 1) cap4) (k + 1) (flatR 6 fU (gap L d y)) → (∀ x ∈ L.drop d, befI W u x) → (∀ t, L[d - 1]? = some t → 0 < d → befI W t u) →
                  Hid (Ld w bw B1 W (stU X g (d * 6) u) ∧ (stU X g (d * 6) u).ownsRow B1 67 6 (.slice (some ⟨g, 0, none⟩) (k + 1) cap4) (k + 1) (flatR 6 fU (gap L d u)) ∧ (gap L d u).Perm (l.take (k + 1)) ∧ (gap L d u).Pairwise (befI W) ∧ (nmK (l.take (k + 1))).Nodup)) := fun X d y hd hld hrow hlo hhi => by
                have hs := gap_store hrow (by omega) u
                exact ⟨hld.next hs.2, hs.1, take_perm HU.out HL2.out.1 d, ins_place HL2.out.2.1 HL2.out.2.2.2.2 (HOK.out u HUL.out) (by omega) hlo hhi, HL2.out.2.2.1⟩
              clear HI4 HAPP c0 c1 c2 c3 c4 c5 hlk hkk
              go_wp2_with fail
              go_loopw [12] (fun iv wr => ∃ (d : Nat) (y : Us), d ≤ k ∧ iv = .int .i64 d ∧ Hid (Ld w bw B1 W wr ∧ wr.ownsRow B1 67 6 (.slice (some ⟨g, 0, none⟩) (k + 1) cap4) (k + 1) (flatR 6 fU (gap L d y)) ∧ ∀ x ∈ L.drop d, befI W u x)) (fun iv _ => (intOf iv).toNat)
              case atStart => exact ⟨k, u, Nat.le_refl _, rfl, HI5⟩
              case round =>
                clear HI5
                obtain ⟨d, y, hd, rfl, HD⟩ := hrel
                have HDK := hid hd
                obtain ⟨b2, off2, e, hbr2, c0, c1, c2, c3, c4, c5⟩ := HS.out.one HD.out.1.bel HU.out
                injection e with e
                injection e with e1 e2
                subst e1 e2
                obtain ⟨g2, cp2, e, hBg, hgl, hgf, hgc⟩ := rowR_cells HD.out.2.1 (by omega)
                injection e with e1 e2 e3
                injection e1 with e1
                injection e1 with e1
                subst e1 e3
                have hdb : (d : Int) ≤ (k : Int) := by omega
                by_cases hd0 : d = 0
                · subst hd0
                  have F : Hid (∀ X, Below wr.heap.size wr X → Hid (Ld w bw B1 W (stU X g (0 * 6) u) ∧ (stU X g (0 * 6) u).ownsRow B1 67 6 (.slice (some ⟨g, 0, none⟩) (k + 1) cap4) (k + 1) (flatR 6 fU (gap L 0 u)) ∧ (gap L 0 u).Perm (l.take (k + 1)) ∧ (gap L 0 u).Pairwise (befI W) ∧ (nmK (l.take (k + 1))).Nodup)) := fun X hb =>
                    HDONE.out X 0 y (Nat.zero_le _) (HD.out.1.below hb) (rowR_below HD.out.2.1 hb) HD.out.2.2 (fun t _ h => by omega)
                  have f0 := hgf 0
                  have f1 := hgf 1
                  have f2 := hgf 2
                  have f3 := hgf 3
                  have f4 := hgf 4
                  have f5 := hgf 5
                  have g0 := hgc 0 _ (show (gap L 0 y)[0]? = some y by simp [gap])
                  have x0 : wr.cell? ⟨g, 0, none⟩ = some (.string y.name) := g0 0 (by omega)
                  have x1 : wr.cell? ⟨g, 1, none⟩ = some (.int .i64 y.wt) := g0 1 (by omega)
                  have x2 : wr.cell? ⟨g, 2, none⟩ = some (.int .i64 y.a) := g0 2 (by omega)
                  have x3 : wr.cell? ⟨g, 3, none⟩ = some (.int .i64 y.b) := g0 3 (by omega)
                  have x4 : wr.cell? ⟨g, 4, none⟩ = some (.int .i64 y.c) := g0 4 (by omega)
                  have x5 : wr.cell? ⟨g, 5, none⟩ = some (.int .i64 y.d) := g0 5 (by omega)
                  have hkp : ¬ (0 : Int) < ((0 : Nat) : Int) := by omega
                  have hk0 : (0 : Int) < (k : Int) + 1 := by omega
                  clear HDONE HD hgc hd g0
                  go_upto_region 18 with (fail)
                  go_quiet (fail)
                  go_wp2
                  go_roundw
                  case rel => exact ⟨k + 1, gap L 0 u, _, HJ1.out, rfl, by go_num, F.out _ (by repeat (first | with_reducible assumption | with_reducible exact Below.refl _ _ | with_reducible refine Below.drew ?_ | with_reducible refine below_drewN ?_ _ | with_reducible refine below_alloc ?_ _ | with_reducible refine Below.alloc ?_ (by first | omega | (simp; done) | (simp; omega)) _ | with_reducible refine Below.setCell ?_ (by first | omega | (simp; done) | (simp; omega)) _ | with_reducible refine below_setRow ?_ (by first | omega | (simp; done) | (simp; omega)) _))⟩
                  case measure => have := HMS.out; simp [intOf]; omega
                · obtain ⟨d', rfl⟩ : ∃ d', d = d' + 1 := ⟨d - 1, by omega⟩
                  have hdl : d' < L.length := by have := HL2.out.2.2.2.1; omega
                  obtain ⟨t, ht⟩ : ∃ t, L[d']? = some t := ⟨_, List.getElem?_eq_getElem hdl⟩
                  have HT := hid ht
                  have htL : t ∈ L := List.mem_of_getElem? ht
                  have g0 := hgc d' t (by rw [gap_lt (by omega) (by omega)]; exact ht)
                  have x0 : wr.cell? ⟨g, d' * 6, none⟩ = some (.string t.name) := g0 0 (by omega)
                  have x1 : wr.cell? ⟨g, d' * 6 + 1, none⟩ = some (.int .i64 t.wt) := g0 1 (by omega)
                  have x2 : wr.cell? ⟨g, d' * 6 + 2, none⟩ = some (.int .i64 t.a) := g0 2 (by omega)
                  have x3 : wr.cell? ⟨g, d' * 6 + 3, none⟩ = some (.int .i64 t.b) := g0 3 (by omega)
                  have x4 : wr.cell? ⟨g, d' * 6 + 4, none⟩ = some (.int .i64 t.c) := g0 4 (by omega)
                  have x5 : wr.cell? ⟨g, d' * 6 + 5, none⟩ = some (.int .i64 t.d) := g0 5 (by omega)
                  obtain ⟨r, hr⟩ : ∃ r, r = decide (befI W u t) := ⟨_, rfl⟩
                  have HR := hid hr
                  have HBT := hid (HBE.out u t (HOK.out u HUL.out) (HL2.out.2.2.2.2 t htL))
                  rw [← hr] at HBT
                  have hkp : (0 : Int) < ((d' + 1 : Nat) : Int) := by omega
                  have hka : ((d' + 1 : Nat) : Int) = (d' : Int) + 1 := by omega
                  have hdk : decide ((0 : Int) < ((d' + 1 : Nat) : Int)) = true := by simp
                  have hd1 : (d' : Int) < (k : Int) + 1 := by omega
                  have Y2 := HD.out.1.whole
                  rw [hvI] at Y2
                  obtain ⟨y0, y1, y2, y3, -⟩ := four Y2
                  have hl2 := lt_of_at Y2
                  have HNE := hid (name_ne HU.out HL2.out.1 HL2.out.2.2.1 htL)
                  clear hgc g0 hr ht htL hd hd0 Y2 hdl
                  have iw0 : IntKind.i64.wrap (d' : Int) = (d' : Int) := IntWalk.i64_in _ (by omega)
                  have iw1 : IntKind.i64.wrap ((d' : Int) + 1 - 1) = (d' : Int) := by rw [show (d' : Int) + 1 - 1 = d' by omega]; exact iw0
                  have iw2 : IntKind.i64.wrap (((d' + 1 : Nat) : Int) - 1) = (d' : Int) := by rw [show ((d' + 1 : Nat) : Int) - 1 = d' by omega]; exact iw0
                  have it0 : ((d' : Int)).toNat = d' := by omega
                  have it1 : ((d' : Int) + 1 - 1) = (d' : Int) := by omega
                  have it2 : (((d' + 1 : Nat) : Int) - 1) = (d' : Int) := by omega
                  have it3 : (0 : Int) ≤ (d' : Int) := by omega
                  go_upto_region 18 with (fail)
                  go_region_held3 (fun w' => Below wr.heap.size wr w' ∧ (∀ b o, b < wr.heap.size → w'.cell? ⟨b, o, none⟩ = wr.cell? ⟨b, o, none⟩) ∧ ∀ b o, b < wr.heap.size → w'.frozen? ⟨b, o, none⟩ = wr.frozen? ⟨b, o, none⟩) (first | ((try go_split_ands); (try dsimp only); refine same_of ?_; (repeat (first | with_reducible assumption | with_reducible exact Below.refl _ _ | with_reducible refine Below.drew ?_ | with_reducible refine below_drewN ?_ _ | with_reducible refine below_alloc ?_ _ | with_reducible refine Below.alloc ?_ (by first | omega | (simp; done) | (simp; omega)) _ | with_reducible refine Below.setCell ?_ (by first | omega | (simp; done) | (simp; omega)) _ | with_reducible refine below_setRow ?_ (by first | omega | (simp; done) | (simp; omega)) _)); done) | ((try go_split_ands); (try dsimp only); refine same_of ?_; (repeat (first | with_reducible refine below_call ?_ hb9 | with_reducible assumption | with_reducible exact Below.refl _ _ | with_reducible refine Below.drew ?_ | with_reducible refine below_alloc ?_ _ | with_reducible refine Below.setCell ?_ (by (try have qz_hb9 := hb9.size); (try simp only [World.size_alloc, World.size_setCell, heap_drew] at qz_hb9); (try (obtain ⟨qy_hb9, -, -⟩ : Below _ _ w9 ∧ _ ∧ _ := by assumption; have qx_hb9 := qy_hb9.size)); first | omega | (dsimp only; omega)) _)); done)) ((go_at_call 27; refine (HBT.out _).mono ?_; rintro e w9 ⟨rfl, hb9⟩; obtain ⟨hc9, hf9⟩ := bcell hb9))
                  all_goals
                    clear iw0 iw1 iw2 it0 it1 it2 it3
                  all_goals
                    have hb10 : Below wr.heap.size wr w9 := (Below.drew (Below.refl _ _)).trans (hb9.mono (by simp [heap_drew]))
                    have hLd9 := HD.out.1.below hb10
                    have hrow9 := rowR_below HD.out.2.1 hb10
                    obtain ⟨g2, cp2, e, -, hgl9, hgf9, hgc9⟩ := rowR_cells hrow9 (by omega)
                    injection e with e1 e2 e3
                    injection e1 with e1
                    injection e1 with e1
                    subst e1 e3
                    have HLO := hid HD.out.2.2
                    have HLD9 := hid hLd9
                    have HRO9 := hid hrow9
                    clear x0 x1 x2 x3 x4 x5 y0 y1 y2 y3 c0 c1 c2 c3 c4 c5 hc9 hf9 hb9 hgf hgl hl2 HD hbr2
                    obtain ⟨b2, off2, e, hbr2, c0, c1, c2, c3, c4, c5⟩ := HS.out.one hLd9.bel HU.out
                    injection e with e
                    injection e with e1 e2
                    subst e1 e2
                    have hdk1 : (d' : Int) + 1 < (k : Int) + 1 := by have := HDK.out; omega
                    cases r with
                    | true =>
                      have g0 := hgc9 d' t (by rw [gap_lt (by have := HDK.out; have := HL2.out.2.2.2.1; omega) (by omega)]; exact HT.out)
                      have x0 : w9.cell? ⟨g, d' * 6, none⟩ = some (.string t.name) := g0 0 (by omega)
                      have x1 : w9.cell? ⟨g, d' * 6 + 1, none⟩ = some (.int .i64 t.wt) := g0 1 (by omega)
                      have x2 : w9.cell? ⟨g, d' * 6 + 2, none⟩ = some (.int .i64 t.a) := g0 2 (by omega)
                      have x3 : w9.cell? ⟨g, d' * 6 + 3, none⟩ = some (.int .i64 t.b) := g0 3 (by omega)
                      have x4 : w9.cell? ⟨g, d' * 6 + 4, none⟩ = some (.int .i64 t.c) := g0 4 (by omega)
                      have x5 : w9.cell? ⟨g, d' * 6 + 5, none⟩ = some (.int .i64 t.d) := g0 5 (by omega)
                      have hst := gap_store hrow9 (by have := HDK.out; have := HL2.out.2.2.2.1; omega) t
                      have hgx : (flatR 6 fU (gap L (d' + 1) t)) = flatR 6 fU (gap L d' t) := by
                        rw [← gap_next (y := y) HT.out, gap_set (by have := HDK.out; have := HL2.out.2.2.2.1; omega)]
                      rw [hgx] at hst
                      have HREL : Hid (Ld w bw B1 W (stU w9 g ((d' + 1) * 6) t) ∧ (stU w9 g ((d' + 1) * 6) t).ownsRow B1 67 6 (.slice (some ⟨g, 0, none⟩) (k + 1) cap4) (k + 1) (flatR 6 fU (gap L d' t)) ∧ ∀ x ∈ L.drop d', befI W u x) := by
                        refine ⟨hLd9.next hst.2, hst.1, fun x hx => ?_⟩
                        obtain ⟨hdl, et⟩ := List.getElem?_eq_some_iff.1 HT.out
                        rw [List.drop_eq_getElem_cons hdl, List.mem_cons] at hx
                        rcases hx with rfl | hx
                        · rw [et]
                          exact of_decide_eq_true HR.out.symm
                        · exact HLO.out x hx
                      have hgy0 := hgc9 (d' + 1) y (by
                        have h1 : d' + 1 ≤ L.length := by have := HDK.out; have := HL2.out.2.2.2.1; omega
                        unfold gap
                        rw [List.getElem?_append_right (by rw [List.length_take]; omega)]
                        simp [h1])
                      have z0 : w9.cell? ⟨g, (d' + 1) * 6, none⟩ = some (.string y.name) := hgy0 0 (by omega)
                      have z1 : w9.cell? ⟨g, (d' + 1) * 6 + 1, none⟩ = some (.int .i64 y.wt) := hgy0 1 (by omega)
                      have z2 : w9.cell? ⟨g, (d' + 1) * 6 + 2, none⟩ = some (.int .i64 y.a) := hgy0 2 (by omega)
                      have z3 : w9.cell? ⟨g, (d' + 1) * 6 + 3, none⟩ = some (.int .i64 y.b) := hgy0 3 (by omega)
                      have z4 : w9.cell? ⟨g, (d' + 1) * 6 + 4, none⟩ = some (.int .i64 y.c) := hgy0 4 (by omega)
                      have z5 : w9.cell? ⟨g, (d' + 1) * 6 + 5, none⟩ = some (.int .i64 y.d) := hgy0 5 (by omega)
                      have f0 := hgf9 ((d' + 1) * 6)
                      have f1 := hgf9 ((d' + 1) * 6 + 1)
                      have f2 := hgf9 ((d' + 1) * 6 + 2)
                      have f3 := hgf9 ((d' + 1) * 6 + 3)
                      have f4 := hgf9 ((d' + 1) * 6 + 4)
                      have f5 := hgf9 ((d' + 1) * 6 + 5)
                      clear hst hgx hgc9 g0 HDONE HLD9 HRO9 hLd9 hrow9 hgy0 hb10 hgf9
                      go_wp2
                      go_roundw
                      case rel => exact ⟨d', t, by have := HDK.out; omega, by go_num, HREL⟩
                      case measure => simp [intOf]
                    | false =>
                      have hno : ¬ befI W u t := of_decide_eq_false HR.out.symm
                      have F : Hid (Ld w bw B1 W (stU w9 g ((d' + 1) * 6) u) ∧ (stU w9 g ((d' + 1) * 6) u).ownsRow B1 67 6 (.slice (some ⟨g, 0, none⟩) (k + 1) cap4) (k + 1) (flatR 6 fU (gap L (d' + 1) u)) ∧ (gap L (d' + 1) u).Perm (l.take (k + 1)) ∧ (gap L (d' + 1) u).Pairwise (befI W) ∧ (nmK (l.take (k + 1))).Nodup) :=
                        HDONE.out w9 (d' + 1) y HDK.out hLd9 hrow9 HLO.out (fun t' ht' _ => by
                          have e : d' + 1 - 1 = d' := by omega
                          rw [e, HT.out] at ht'
                          injection ht' with ht'
                          subst ht'
                          exact (bef_tot HNE.out).resolve_right hno)
                      have hgy0 := hgc9 (d' + 1) y (by
                        have h1 : d' + 1 ≤ L.length := by have := HDK.out; have := HL2.out.2.2.2.1; omega
                        unfold gap
                        rw [List.getElem?_append_right (by rw [List.length_take]; omega)]
                        simp [h1])
                      have z0 : w9.cell? ⟨g, (d' + 1) * 6, none⟩ = some (.string y.name) := hgy0 0 (by omega)
                      have z1 : w9.cell? ⟨g, (d' + 1) * 6 + 1, none⟩ = some (.int .i64 y.wt) := hgy0 1 (by omega)
                      have z2 : w9.cell? ⟨g, (d' + 1) * 6 + 2, none⟩ = some (.int .i64 y.a) := hgy0 2 (by omega)
                      have z3 : w9.cell? ⟨g, (d' + 1) * 6 + 3, none⟩ = some (.int .i64 y.b) := hgy0 3 (by omega)
                      have z4 : w9.cell? ⟨g, (d' + 1) * 6 + 4, none⟩ = some (.int .i64 y.c) := hgy0 4 (by omega)
                      have z5 : w9.cell? ⟨g, (d' + 1) * 6 + 5, none⟩ = some (.int .i64 y.d) := hgy0 5 (by omega)
                      have f0 := hgf9 ((d' + 1) * 6)
                      have f1 := hgf9 ((d' + 1) * 6 + 1)
                      have f2 := hgf9 ((d' + 1) * 6 + 2)
                      have f3 := hgf9 ((d' + 1) * 6 + 3)
                      have f4 := hgf9 ((d' + 1) * 6 + 4)
                      have f5 := hgf9 ((d' + 1) * 6 + 5)
                      clear hgc9 HDONE HLD9 HRO9 hLd9 hrow9 hgy0 hb10 hgf9 hno
                      go_wp2
                      go_roundw
                      case rel => exact ⟨k + 1, gap L (d' + 1) u, _, HJ1.out, rfl, by go_num, F⟩
                      case measure => have := HMS.out; simp [intOf]; omega
        · obtain rfl : j = i := by omega
          have hjj : ¬ (j : Int) < (j : Int) := by omega
          obtain ⟨B3, hB3⟩ : ∃ x, x = wr.heap.size := ⟨_, rfl⟩
          have hlj : l.take j = l := List.take_of_length_le (by have := HL.out; omega)
          have HE0 : Hid (errO W l = 0) := errO_zero.2 ⟨HOK.out, by have := HI.out.2.2.2.2; rw [hlj] at this; exact this⟩
          have HSR : Hid (SrtO W l L) := ⟨by have := HI.out.2.2.1; rw [hlj] at this; exact this, HI.out.2.2.2.1⟩
          have HLL : Hid (L.length = j) := rowR_len HI.out.2.1 (by omega)
          have HB3 : Hid (B1 ≤ B3 ∧ w.heap.size ≤ B3 ∧ ∀ g, (Value.slice A3 j cap3).ownBlock = some g → g < B3) := by
            rw [hB3]
            exact ⟨HI.out.1.sz, HI.out.1.bel.size, fun g hg => (HI.out.2.1.lt g hg).2⟩
          have HI6 : Hid (Below w.heap.size w wr ∧ B3 ≤ wr.heap.size ∧ wr.ownsRow B1 67 6 (.slice A3 j cap3) j (flatR 6 fU L) ∧ wr.ownsRow B3 9 1 (.slice none 0 0) 0 (rowK (nmK (L.take 0)))) :=
            ⟨HI.out.1.bel, by rw [hB3]; exact Nat.le_refl _, HI.out.2.1, World.ownsRow_nil _ _ _ _⟩
          clear HI hj hjn hB3 hlj
          go_wp2_with fail
          go_loopw [13, 14] (fun ov kv wr => ∃ (k : Nat) (o : Value), k ≤ j ∧ o = ov ∧ kv = .int .i64 k ∧ Hid (Below w.heap.size w wr ∧ B3 ≤ wr.heap.size ∧ wr.ownsRow B1 67 6 (.slice A3 j cap3) j (flatR 6 fU L) ∧ wr.ownsRow B3 9 1 o k (rowK (nmK (L.take k))))) (fun _ kv _ => j - (intOf kv).toNat)
          case atStart => exact ⟨0, _, Nat.zero_le _, rfl, rfl, HI6⟩
          case round =>
            clear HI6 hjj
            obtain ⟨k, o, hk, rfl, rfl, HI⟩ := hrel
            obtain ⟨A7, cap7, rfl⟩ := row_slice HI.out.2.2.2
            by_cases hkj : k < j
            · have HK1 : Hid (k + 1 ≤ j) := hkj
              have HMK : Hid (j - (k + 1) < j - k) := by unfold Hid; omega
              have hkk : (k : Int) < (j : Int) := by omega
              have hkb : (k : Int) ≤ 1000 := by omega
              obtain ⟨u, hu⟩ : ∃ u, L[k]? = some u := ⟨_, List.getElem?_eq_getElem (by have := HLL.out; omega)⟩
              obtain ⟨g, c9, e, -, hgl, -, hgc⟩ := rowR_cells HI.out.2.2.1 (by omega)
              injection e with e1 e2 e3
              subst e1 e3
              have x0 : wr.cell? ⟨g, k * 6, none⟩ = some (.string u.name) := hgc k u hu 0 (by omega)
              obtain ⟨A8, cap8, w5, happ, hown, hb5, ht5⟩ := app_rowK HI.out.2.2.2 (by have := HN.out; omega) HI.out.2.1 u.name
              have HAPP := hid happ
              have HI5 : Hid (Below w.heap.size w w5 ∧ B3 ≤ w5.heap.size ∧ w5.ownsRow B1 67 6 (.slice (some ⟨g, 0, none⟩) j cap3) j (flatR 6 fU L) ∧ w5.ownsRow B3 9 1 (.slice A8 (k + 1) cap8) (k + 1) (rowK (nmK (L.take (k + 1))))) :=
                ⟨HI.out.1.trans (hb5.mono HB3.out.2.1), Nat.le_trans HI.out.2.1 hb5.size, rowR_kept HI.out.2.2.1 (fun q hq => hb5.block q (HB3.out.2.2 q hq)), by rw [nmK_take hu]; exact hown⟩
              clear hgc hu happ hown hb5 ht5 HI hk hkj
              go_wp2_with (first | (at_builtin; refine wpList_append_eq rfl _ _ _ rfl rfl rfl HAPP.out ?_))
              go_roundw
              case rel => exact ⟨k + 1, _, HK1.out, rfl, by go_num, HI5⟩
              case measure => have := HMK.out; simp [intOf]; omega
            · obtain rfl : k = j := by omega
              have hkk : ¬ (k : Int) < (k : Int) := by omega
              have hrow := HI.out.2.2.2
              rw [List.take_of_length_le (by have := HLL.out; omega)] at hrow
              have hkl : k = l.length := HL.out
              have FIN : Hid (wr.ownsRow w.heap.size 9 1 (.slice A7 k cap7) l.length (rowK (nmK L)) ∧ Below w.heap.size w wr) := by
                rw [← hkl]
                exact ⟨row_base hrow HB3.out.2.1, HI.out.1⟩
              clear hrow HI hk hkj hkl
              go_wp2
              go_ret2
              exact ⟨.inr ⟨HE0.out, _, L, HSR.out, rfl, FIN.out.1⟩, FIN.out.2⟩
end Go.Proofs.Yteccpjijlkjneaa
