/- Chapter 14's reference: Push. -/
import Derived.Test.YtingeijodooocaaDfD
namespace Go.Proofs.Ytingeijodooocaa
open Go.RowKit
variable {B g n c : Nat} {w w' wr : World} {v : Value} {L M : List Wt} {A : Option Addr} {cap : Nat}
/-- A row with a gap at k. -/
def gap {α : Type} (T : List α) (k : Nat) (y : α) : List α := T.take k ++ y :: T.drop k
section
variable {α : Type} {T : List α} {k j : Nat} {x y t : α}
theorem gap_len (hk : k ≤ T.length) : (gap T k y).length = T.length + 1 := by unfold gap; simp; omega
theorem gap_all : gap T T.length y = T ++ [y] := by unfold gap; simp
theorem gap_lt (hk : k ≤ T.length) (hj : j < k) : (gap T k y)[j]? = T[j]? := by
  unfold gap
  rw [List.getElem?_append_left (by simp; omega), List.getElem?_take, if_pos hj]
theorem gap_at (hk : k ≤ T.length) : (gap T k y)[k]? = some y := by
  unfold gap
  rw [List.getElem?_append_right (by simp; omega)]
  simp [hk]
theorem gap_set (hk : k ≤ T.length) : (gap T k y).set k x = gap T k x := by
  unfold gap
  rw [List.set_append_right (s := T.take k) k x (by simp; omega)]
  simp [hk]
theorem gap_next (h : T[k]? = some t) : (gap T (k + 1) y).set (k + 1) t = gap T k t := by
  obtain ⟨hk, e⟩ := List.getElem?_eq_some_iff.1 h
  rw [gap_set (by omega)]
  unfold gap
  rw [List.take_add_one, h, List.drop_eq_getElem_cons hk, e]
  simp
end
abbrev stW (X : World) (b o : Nat) (x : Wt) : World := ((X.setCell ⟨b, o, none⟩ (.int .i64 x.job)).setCell ⟨b, o + 1, none⟩ (.string x.ten)).setCell ⟨b, o + 2, none⟩ (.int .i64 x.pri)
theorem RfQ.set {b i : Nat} (h : RfQ B w g (.slice (some ⟨b, 0, none⟩) n cap) n M) (hi : i < M.length) (x : Wt) :
    RfQ B (stW w b (i * 3) x) g (.slice (some ⟨b, 0, none⟩) n cap) n (M.set i x) ∧ w.grownBy (stW w b (i * 3) x) (some b) := by
  obtain ⟨h1, h2⟩ := rowR_set h.row hi x
  exact ⟨⟨h.hB, (h2.block g h.ltg (fun e => h.ne b rfl (by injection e with e; exact e.symm))).trans h.blk, h1, h.ne⟩, h2⟩
set_option maxHeartbeats 2000000 in
theorem rpush_range (g : Nat) (u : Wt) (w : World) (h : ¬ (1 ≤ u.job ∧ u.job ≤ 100 ∧ 0 ≤ u.pri ∧ u.pri ≤ 100)) :
    Calls Try.prog 19 #[.pointer (some ⟨g, 0, none⟩), wtV u] w fun e w' => e = .returned (.int .i64 2) ∧ Below w.heap.size w w' := by
  obtain ⟨j, t, p⟩ := u
  simp only [wtV] at h ⊢
  by_cases a : j < 1
  · clear h
    go_enter Try.func19, Try.ntmps19
    go_wp2
    go_ret
    exact ⟨rfl, (by repeat (first | with_reducible assumption | with_reducible exact Below.refl _ _ | with_reducible refine Below.drew ?_ | with_reducible refine below_drewN ?_ _ | with_reducible refine below_alloc ?_ _ | with_reducible refine Below.alloc ?_ (by first | omega | (simp; done) | (simp; omega)) _ | with_reducible refine Below.setCell ?_ (by first | omega | (simp; done) | (simp; omega)) _ | with_reducible refine below_setRow ?_ (by first | omega | (simp; done) | (simp; omega)) _))⟩
  · by_cases b : 100 < j
    · clear h
      go_enter Try.func19, Try.ntmps19
      go_wp2
      go_ret
      exact ⟨rfl, (by repeat (first | with_reducible assumption | with_reducible exact Below.refl _ _ | with_reducible refine Below.drew ?_ | with_reducible refine below_drewN ?_ _ | with_reducible refine below_alloc ?_ _ | with_reducible refine Below.alloc ?_ (by first | omega | (simp; done) | (simp; omega)) _ | with_reducible refine Below.setCell ?_ (by first | omega | (simp; done) | (simp; omega)) _ | with_reducible refine below_setRow ?_ (by first | omega | (simp; done) | (simp; omega)) _))⟩
    · by_cases d : p < 0
      · clear h
        go_enter Try.func19, Try.ntmps19
        go_wp2
        go_ret
        exact ⟨rfl, (by repeat (first | with_reducible assumption | with_reducible exact Below.refl _ _ | with_reducible refine Below.drew ?_ | with_reducible refine below_drewN ?_ _ | with_reducible refine below_alloc ?_ _ | with_reducible refine Below.alloc ?_ (by first | omega | (simp; done) | (simp; omega)) _ | with_reducible refine Below.setCell ?_ (by first | omega | (simp; done) | (simp; omega)) _ | with_reducible refine below_setRow ?_ (by first | omega | (simp; done) | (simp; omega)) _))⟩
      · have f : 100 < p := by omega
        clear h
        go_enter Try.func19, Try.ntmps19
        go_wp2
        go_ret
        exact ⟨rfl, (by repeat (first | with_reducible assumption | with_reducible exact Below.refl _ _ | with_reducible refine Below.drew ?_ | with_reducible refine below_drewN ?_ _ | with_reducible refine below_alloc ?_ _ | with_reducible refine Below.alloc ?_ (by first | omega | (simp; done) | (simp; omega)) _ | with_reducible refine Below.setCell ?_ (by first | omega | (simp; done) | (simp; omega)) _ | with_reducible refine below_setRow ?_ (by first | omega | (simp; done) | (simp; omega)) _))⟩
/-- Push under way: the gap stands at k. -/
structure Gp (B : Nat) (w wr : World) (g : Nat) (v : Value) (n : Nat) (L : List Wt) (u : Wt) (b cap k : Nat) (y : Wt) : Prop where
  r : RfQ B wr g (.slice (some ⟨b, 0, none⟩) (n + 1) cap) (n + 1) (gap L k y)
  tur : Tur (FootR g v) w wr
  foot : v.ownBlock = some b ∨ w.heap.size < b
  blk : wr.heap[w.heap.size]? = some (.cells #[.int .i64 u.job, .string u.ten, .int .i64 u.pri] 56 (0, 0))
  lo : ∀ x ∈ L.drop k, befQ u x
variable {u y t : Wt} {b k : Nat}
theorem Gp.below (h : Gp B w wr g v n L u b cap k y) (hb : Below wr.heap.size wr w') : Gp B w w' g v n L u b cap k y :=
  ⟨h.r.below hb, h.tur.then (Tur.of_below hb), h.foot, (hb.block _ (lt_of_at h.blk)).trans h.blk, h.lo⟩
theorem Gp.nx (hV : RfQ B w g v n L) (h : Gp B w wr g v n L u b cap k y) : w.heap.size ≠ b ∧ w.heap.size ≠ g := by
  refine ⟨?_, by have := hV.ltg; omega⟩
  rcases h.foot with e | e
  · have := (hV.row.lt b e).2; omega
  · omega
theorem Gp.stored (hV : RfQ B w g v n L) (h : Gp B w wr g v n L u b cap k y) {W : World} (hg : wr.grownBy W (some b)) :
    Tur (FootR g v) w W ∧ W.heap[w.heap.size]? = some (.cells #[.int .i64 u.job, .string u.ten, .int .i64 u.pri] 56 (0, 0)) := by
  refine ⟨h.tur.trans (Tur.of_grown (F := fun q => q = b) hg (fun q e => .inl (by injection e with e; exact e.symm))) fun q e => ?_, ?_⟩
  · subst e
    rcases h.foot with e | e
    · exact .inl (.inr e)
    · exact .inr (by omega)
  · rw [hg.block _ (lt_of_at h.blk) (fun e => (h.nx hV).1 (by injection e))]
    exact h.blk
theorem Gp.step (hV : RfQ B w g v n L) (h : Gp B w wr g v n L u b cap (k + 1) y) (ht : L[k]? = some t) (hb : befQ u t) : Gp B w (stW wr b ((k + 1) * 3) t).drew g v n L u b cap k t := by
  have hl := hV.len
  have hk := (List.getElem?_eq_some_iff.1 ht).1
  obtain ⟨h1, h2⟩ := h.r.set (i := k + 1) (by rw [gap_len (by omega)]; omega) t
  rw [gap_next ht] at h1
  obtain ⟨h3, h4⟩ := h.stored hV h2
  have hd : Below (stW wr b ((k + 1) * 3) t).heap.size (stW wr b ((k + 1) * 3) t) (stW wr b ((k + 1) * 3) t).drew := (Below.refl _ _).drew
  exact Gp.below ⟨h1, h3, h.foot, h4, fun x hx => by
    rw [List.drop_eq_getElem_cons hk, List.mem_cons] at hx
    rcases hx with e | e
    · have : L[k] = t := by rw [List.getElem?_eq_getElem hk] at ht; injection ht
      rw [e, this]; exact hb
    · exact h.lo x e⟩ hd
theorem Gp.last (hV : RfQ B w g v n L) (hs : SrtQ L) (h : Gp B w wr g v n L u b cap k y) (hk : k ≤ n) (hlo : ∀ t, 0 < k → L[k - 1]? = some t → ¬ befQ u t) : RN B w (stW wr b (k * 3) u).drew g v (insQ u L) := by
  have hl := hV.len
  obtain ⟨h1, h2⟩ := h.r.set (i := k) (by rw [gap_len (by omega)]; omega) u
  rw [gap_set (by omega)] at h1
  obtain ⟨h3, h4⟩ := h.stored hV h2
  have hd : Below (stW wr b (k * 3) u).heap.size (stW wr b (k * 3) u) (stW wr b (k * 3) u).drew := (Below.refl _ _).drew
  refine ⟨.slice (some ⟨b, 0, none⟩) (n + 1) cap, n + 1, ?_, h3.then (Tur.of_below hd), fun q hq => ?_⟩
  · rw [ins_end hs (by omega) (fun x h0 hx => hlo x h0 hx) (fun x hx => h.lo x (by
      obtain ⟨q1, q2⟩ := List.getElem?_eq_some_iff.1 hx
      rw [List.drop_eq_getElem_cons q1, q2]
      exact List.mem_cons_self))]
    exact h1.below hd
  · rcases hq with e | e
    · exact .inl (.inl e)
    · injection e with e
      subst e
      rcases h.foot with e | e
      · exact .inl (.inr e)
      · exact .inr (by simp only; omega)
set_option maxRecDepth 100000 in
set_option maxHeartbeats 16000000 in
theorem rpush_g (h : RfQ B w g v n L) (hs : SrtQ L) (hn : n ≤ 900) (u : Wt) :
    Calls Try.prog 19 #[.pointer (some ⟨g, 0, none⟩), wtV u] w fun e w' => e = .returned (.int .i64 (errQ L u)) ∧ RN B w w' g v (pushQ L u) := by
  by_cases hr : 1 ≤ u.job ∧ u.job ≤ 100 ∧ 0 ≤ u.pri ∧ u.pri ≤ 100
  case neg =>
    have e : errQ L u = 2 := by unfold errQ; rw [if_neg (by unfold okR; rw [decide_eq_true_eq]; exact hr)]
    refine (rpush_range g u w hr).mono ?_
    rintro e9 w' ⟨rfl, hb⟩
    refine ⟨by rw [e], ?_⟩
    unfold pushQ
    rw [e]
    exact h.same hb
  have HOK : Hid (okR u = true) := by unfold Hid okR; exact decide_eq_true hr
  have HH := hid h
  have HL := hid h.len
  have HN := hid hn
  have HSR := hid hs
  have hnb : (n : Int) ≤ 900 := by omega
  have hlg0 := h.ltg
  obtain ⟨A, cap, rfl⟩ := rowR_shape h.row
  obtain ⟨r1, r2, r3, r4⟩ := hr
  have r1' : ¬ u.job < 1 := by omega
  have r2' : ¬ 100 < u.job := by omega
  have r3' : ¬ u.pri < 0 := by omega
  have r4' : ¬ 100 < u.pri := by omega
  clear r1 r2 r3 r4 h hn hs
  unfold wtV
  go_enter Try.func19, Try.ntmps19
  go_upto_region 3 with fail
  refine wp_name ?_
  intro w1 hw1
  have A1 : w1.heap[w.heap.size]? = some (.cells #[.int .i64 u.job, .string u.ten, .int .i64 u.pri] 56 (0, 0)) := by rw [hw1]; exact (by (repeat (first | (with_reducible assumption) | (with_reducible exact alloc_at _ _) | ((with_reducible apply alloc_at'); (simp; done)) | (with_reducible apply alloc_at_lt) | (with_reducible apply heap_drew_at) | (with_reducible apply heap_drewN_at) | (with_reducible apply heap_setCell_same) | ((with_reducible apply heap_set_ne); (first | omega | (dsimp only; omega) | (simp; done) | (simp; omega))) | (with_reducible apply setRow_at) | ((with_reducible apply setRow_ne); (first | omega | (dsimp only; omega) | (simp; done) | (simp; omega))))))
  have B1 : Below w.heap.size w w1 := by rw [hw1]; exact (by repeat (first | with_reducible assumption | with_reducible exact Below.refl _ _ | with_reducible refine Below.drew ?_ | with_reducible refine below_drewN ?_ _ | with_reducible refine below_alloc ?_ _ | with_reducible refine Below.alloc ?_ (by first | omega | (simp; done) | (simp; omega)) _ | with_reducible refine Below.setCell ?_ (by first | omega | (simp; done) | (simp; omega)) _ | with_reducible refine below_setRow ?_ (by first | omega | (simp; done) | (simp; omega)) _))
  clear hw1
  have hcall := rfind_g (HH.out.below B1) (by have := HN.out; omega) u.job
  have x0 : w1.cell? ⟨w.heap.size, 0, none⟩ = some (.int .i64 u.job) := (blk_cell A1 0).trans rfl
  have xl := lt_of_at A1
  have HA1 := hid A1
  have HB1 := hid B1
  clear A1 B1
  go_wp2_with fail
  refine hcall.mono ?_
  rintro e w2 ⟨⟨r, rfl, hp⟩, hb2⟩
  have HB2 : Hid (Below w.heap.size w w2) := HB1.out.trans (hb2.mono HB1.out.size)
  have HA2 := hid ((hb2.block _ (lt_of_at HA1.out)).trans HA1.out)
  clear hcall hb2 x0 xl HA1 HB1
  rcases hp with ⟨hf, rfl⟩ | ⟨k, x, hk, hxj, hf, rfl⟩
  case inr =>
    have FIN : Hid (errQ L u = 5 ∧ RN B w w2 g (.slice A n cap) (pushQ L u)) := by
      have e : errQ L u = 5 := by unfold errQ; rw [if_pos HOK.out, hf]; rfl
      refine ⟨e, ?_⟩
      unfold pushQ
      rw [e]
      exact HH.out.same HB2.out
    have hk0 : (0 : Int) ≤ (k : Int) := by omega
    clear hk hf hxj
    go_wp2
    go_ret
    exact ⟨by rw [FIN.out.1]; rfl, FIN.out.2⟩
  have HER : Hid (errQ L u = 0) := by unfold Hid errQ; rw [if_pos HOK.out, hf]; rfl
  have hneg : ¬ (0 : Int) ≤ -1 := by omega
  clear hf
  go_upto_region 5 with fail
  have h2 := HH.out.below HB2.out
  have t2 : Below w2.heap.size w2 (w2.alloc (.cells #[.int .i64 u.job, .string u.ten, .int .i64 u.pri] 56)).drew := (by repeat (first | with_reducible assumption | with_reducible exact Below.refl _ _ | with_reducible refine Below.drew ?_ | with_reducible refine below_drewN ?_ _ | with_reducible refine below_alloc ?_ _ | with_reducible refine Below.alloc ?_ (by first | omega | (simp; done) | (simp; omega)) _ | with_reducible refine Below.setCell ?_ (by first | omega | (simp; done) | (simp; omega)) _ | with_reducible refine below_setRow ?_ (by first | omega | (simp; done) | (simp; omega)) _))
  obtain ⟨b, cp, w6, happ, hown, hb6, hG6, hat6⟩ := rowQ_app (x := u) h2.row (by have := HN.out; omega) (Nat.le_trans h2.hB (Nat.le_of_lt h2.ltg)) t2 (heap_drew_at (alloc_at w2 _))
  have HAPP := hid happ
  have hsz : (w2.alloc (.cells #[.int .i64 u.job, .string u.ten, .int .i64 u.pri] 56)).drew.heap.size = w2.heap.size + 1 := by simp [heap_drew]
  have hg6 : w6.heap[g]? = some (.cells #[.slice A n cap] 46 (0, 0)) := by
    rw [hG6.block g (by rw [hsz]; have := h2.ltg; omega) (fun e => h2.ne g e.symm rfl), t2.block g h2.ltg]
    exact h2.blk
  have hbg : b ≠ g := by
    rcases hat6 with e | e
    · exact h2.ne b e
    · rw [hsz] at e; have := h2.ltg; omega
  have HG7 : Hid (Gp B w (w6.setCell ⟨g, 0, none⟩ (.slice (some ⟨b, 0, none⟩) (n + 1) cp)) g (.slice A n cap) n L u b cp n u) := by
    have hll := HL.out
    have hft : (Value.slice A n cap).ownBlock = some b ∨ w.heap.size < b := by
      rcases hat6 with e | e
      · exact .inl e
      · right; rw [hsz] at e; have := HB2.out.size; omega
    have hgb : ∀ q, (Value.slice (some ⟨b, 0, none⟩) (n + 1) cp).ownBlock = some q → q ≠ g := fun q hq => by
      injection hq with hq
      rw [← hq]; exact hbg
    have hTX : ¬ FootR g (.slice A n cap) w.heap.size := fun q => by
      rcases q with q | q
      · have := HH.out.ltg; omega
      · have := (HH.out.row.lt _ q).2; omega
    have tur6 : Tur (FootR g (.slice A n cap)) w w6 := ((Tur.of_below HB2.out).then (Tur.of_below t2)).then ((Tur.of_grown (F := FootR g (.slice A n cap)) hG6 (fun q e => .inl (.inr e))))
    have tur7 := tur6.then (Tur.set (F := FootR g (.slice A n cap)) (p := ⟨g, 0, none⟩) (.slice (some ⟨b, 0, none⟩) (n + 1) cp) (.inl (.inl rfl)))
    refine ⟨⟨HH.out.hB, (heap_setCell_same _ _ 0 _ _ _ hg6).trans rfl, ?_, hgb⟩, tur7, hft, ?_, fun x hx => ?_⟩
    · rw [show n = L.length from hll.symm, gap_all, hll]
      exact rowR_kept hown fun q hq => heap_setCell_other _ _ _ _ (hgb q hq)
    · have e1 : (w6.setCell ⟨g, 0, none⟩ (.slice (some ⟨b, 0, none⟩) (n + 1) cp)).heap[w.heap.size]? = w6.heap[w.heap.size]? := heap_setCell_other _ _ _ _ (fun e => hTX (.inl e))
      rw [e1, hG6.block _ (by rw [hsz]; have := lt_of_at HA2.out; omega) (fun e => hTX (.inr e.symm)), t2.block _ (lt_of_at HA2.out)]
      exact HA2.out
    · rw [← hll, List.drop_length] at hx
      cases hx
  have k0 : w2.cell? ⟨g, 0, none⟩ = some (.slice A n cap) := h2.head
  have kf := blk_free h2.blk
  have kl := h2.ltg
  have x0 : w2.cell? ⟨w.heap.size, 0, none⟩ = some (.int .i64 u.job) := (blk_cell HA2.out 0).trans rfl
  have x1 : w2.cell? ⟨w.heap.size, 1, none⟩ = some (.string u.ten) := (blk_cell HA2.out 1).trans rfl
  have x2 : w2.cell? ⟨w.heap.size, 2, none⟩ = some (.int .i64 u.pri) := (blk_cell HA2.out 2).trans rfl
  have xl := lt_of_at HA2.out
  have d0 : w6.cell? ⟨g, 0, none⟩ = some (.slice A n cap) := (blk_cell hg6 0).trans rfl
  have df := blk_free hg6
  have dl := lt_of_at hg6
  clear h2 t2 happ hown hb6 hG6 hat6 hsz hg6 hbg
  go_cut [5] (fun s wx => (w6.setCell ⟨g, 0, none⟩ (.slice (some ⟨b, 0, none⟩) (n + 1) cp)) = wx)
  case first =>
    go_region_law (refine step_append_eq rfl (.tmp 33) (.tmp 35) 44 rfl (v := .slice A n cap) (y := .slice (some ⟨w2.heap.size, 0, none⟩) 1 1) (by simp [Act.eval]) (by simp [Act.eval]) HAPP.out ?_)
    all_goals
      go_wp2_with fail
      go_meet
      rfl
  case rest =>
    obtain ⟨w7, hw8⟩ : ∃ w7, w7 = wc := ⟨_, rfl⟩
    rw [← hw8] at hcut ⊢
    rw [hcut] at HG7
    clear hcut hw8 HAPP k0 kf kl x0 x1 x2 xl d0 df dl
    have m7 := HG7.out.r.head
    have ml7 := HG7.out.r.ltg
    have iw1 : IntKind.i64.wrap ((n : Int) + 1 - 1) = (n : Int) := by rw [show (n : Int) + 1 - 1 = (n : Int) by omega]; exact IntWalk.i64_in _ (by omega)
    have iw2 : IntKind.i64.wrap (n : Int) = (n : Int) := IntWalk.i64_in _ (by omega)
    go_wp2_with fail
    clear m7 ml7 iw1 iw2
    go_loopw [5] (fun iv wr => ∃ (k : Nat) (y : Wt), k ≤ n ∧ iv = .int .i64 k ∧ Hid (Gp B w wr g (.slice A n cap) n L u b cp k y)) (fun iv _ => (intOf iv).toNat)
    case atStart => exact ⟨n, u, Nat.le_refl _, by go_num, HG7⟩
    case round =>
      clear HG7
      obtain ⟨k, y, hk, rfl, HK⟩ := hrel
      have HKN := hid hk
      have hkn : (k : Int) < (n : Int) + 1 := by omega
      have hkb : (k : Int) ≤ 900 := by omega
      obtain ⟨f, hf⟩ : ∃ f : Bool, f = true ↔ ∃ t, 0 < k ∧ L[k - 1]? = some t ∧ befQ u t := by
        rcases Classical.em (∃ t, 0 < k ∧ L[k - 1]? = some t ∧ befQ u t) with hP | hP
        · exact ⟨true, fun _ => hP, fun _ => rfl⟩
        · exact ⟨false, fun e => (by cases e), fun e => absurd e hP⟩
      have HFD := hid hf
      have CEL : Hid (∀ X, Below wr.heap.size wr X → X.cell? ⟨g, 0, none⟩ = some (.slice (some ⟨b, 0, none⟩) (n + 1) cp) ∧ g < X.heap.size ∧ X.cell? ⟨w.heap.size, 0, none⟩ = some (.int .i64 u.job) ∧ X.cell? ⟨w.heap.size, 1, none⟩ = some (.string u.ten) ∧ X.cell? ⟨w.heap.size, 2, none⟩ = some (.int .i64 u.pri) ∧ w.heap.size < X.heap.size ∧ b < X.heap.size ∧ (∀ o, X.frozen? ⟨b, o, none⟩ = false) ∧ ∀ i x, (gap L k y)[i]? = some x → X.cell? ⟨b, i * 3, none⟩ = some (.int .i64 x.job) ∧ X.cell? ⟨b, i * 3 + 1, none⟩ = some (.string x.ten) ∧ X.cell? ⟨b, i * 3 + 2, none⟩ = some (.int .i64 x.pri)) := fun X hX => by
        have h9 := HK.out.below hX
        obtain ⟨b9, c9, e9, -, hl9, hf9, hc9⟩ := rowR_cells h9.r.row (by omega)
        injection e9 with e9 e10 e11
        injection e9 with e9
        injection e9 with e9
        subst e9
        exact ⟨h9.r.head, h9.r.ltg, (blk_cell h9.blk 0).trans rfl, (blk_cell h9.blk 1).trans rfl, (blk_cell h9.blk 2).trans rfl, lt_of_at h9.blk, hl9, hf9, fun i x hi => ⟨hc9 i x hi 0 (by omega), hc9 i x hi 1 (by omega), hc9 i x hi 2 (by omega)⟩⟩
      clear hf
      go_upto_region 7 with fail
      go_cut [58] (fun s wx => s = .bool f ∧ Below wr.heap.size wr wx)
      case first =>
        by_cases h0 : k = 0
        · have hff : f = false := by
            cases f with
            | false => rfl
            | true => obtain ⟨t, h1, -⟩ := HFD.out.1 rfl; omega
          subst hff
          subst h0
          have hg1 : decide ((0 : Int) < ((0 : Nat) : Int)) = false := by simp
          clear hk hkn
          go_quiet (fail)
          go_wp2_with fail
          go_meet
          exact ⟨rfl, (by repeat (first | with_reducible assumption | with_reducible exact Below.refl _ _ | with_reducible refine Below.drew ?_ | with_reducible refine below_drewN ?_ _ | with_reducible refine below_alloc ?_ _ | with_reducible refine Below.alloc ?_ (by first | omega | (simp; done) | (simp; omega)) _ | with_reducible refine Below.setCell ?_ (by first | omega | (simp; done) | (simp; omega)) _ | with_reducible refine below_setRow ?_ (by first | omega | (simp; done) | (simp; omega)) _))⟩
        · obtain ⟨p, hp⟩ : ∃ p, p = k - 1 := ⟨_, rfl⟩
          have iw : IntKind.i64.wrap ((k : Int) - 1) = (p : Int) := by rw [show (k : Int) - 1 = (p : Int) by omega]; exact IntWalk.i64_in _ (by omega)
          have hpn : (p : Int) < (n : Int) + 1 := by omega
          have hg1 : decide (0 < k) = true := by simp; omega
          have hg2 : decide ((0 : Int) < (k : Int)) = true := by simp; omega
          have hk0 : 0 < k := by omega
          obtain ⟨t, ht⟩ : ∃ t, L[p]? = some t := ⟨_, List.getElem?_eq_getElem (by have := HL.out; omega)⟩
          obtain ⟨m0, ml, x0, x1, x2, xl, bl, -, hc⟩ := CEL.out wr (Below.refl _ _)
          obtain ⟨c0, c1, c2⟩ := hc p t (by rw [gap_lt (by have := HL.out; omega) (by omega)]; exact ht)
          have hft : f = decide (befQ u t) := by
            cases f with
            | true =>
              obtain ⟨t2, -, h2, h3⟩ := HFD.out.1 rfl
              rw [← hp, ht] at h2
              injection h2 with h2
              rw [h2]; exact (decide_eq_true h3).symm
            | false =>
              symm
              rw [decide_eq_false_iff_not]
              intro h3
              have := HFD.out.2 ⟨t, hk0, by rw [← hp]; exact ht, h3⟩
              cases this
          have HBT := fun W => rbef_g u t W
          rw [← hft] at HBT
          have HBT := hid HBT
          clear hft ht hp h0 hk hc hk0
          go_region_held3 (fun w' => Below wr.heap.size wr w' ∧ (∀ b o, b < wr.heap.size → w'.cell? ⟨b, o, none⟩ = wr.cell? ⟨b, o, none⟩) ∧ ∀ b o, b < wr.heap.size → w'.frozen? ⟨b, o, none⟩ = wr.frozen? ⟨b, o, none⟩) (first | ((try go_split_ands); (try dsimp only); refine same_of ?_; (repeat (first | with_reducible assumption | with_reducible exact Below.refl _ _ | with_reducible refine Below.drew ?_ | with_reducible refine below_drewN ?_ _ | with_reducible refine below_alloc ?_ _ | with_reducible refine Below.alloc ?_ (by first | omega | (simp; done) | (simp; omega)) _ | with_reducible refine Below.setCell ?_ (by first | omega | (simp; done) | (simp; omega)) _ | with_reducible refine below_setRow ?_ (by first | omega | (simp; done) | (simp; omega)) _)); done) | ((try go_split_ands); (try dsimp only); refine same_of ?_; (repeat (first | with_reducible refine below_call ?_ hb9 | with_reducible assumption | with_reducible exact Below.refl _ _ | with_reducible refine Below.drew ?_ | with_reducible refine below_alloc ?_ _ | with_reducible refine Below.setCell ?_ (by (try have qz_hb9 := hb9.size); (try simp only [World.size_alloc, World.size_setCell, heap_drew] at qz_hb9); (try (obtain ⟨qy_hb9, -, -⟩ : Below _ _ w9 ∧ _ ∧ _ := by assumption; have qx_hb9 := qy_hb9.size)); first | omega | (dsimp only; omega)) _)); done)) ((go_at_call 42; refine (HBT.out _).mono ?_; rintro e w9 ⟨rfl, hb9⟩; obtain ⟨hc9, hf9⟩ := bcell hb9))
          all_goals
            have hbw : Below wr.heap.size wr w9 := (Below.drew (Below.refl _ _)).trans (hb9.mono (by simp [heap_drew]))
            go_wp2_with fail
            go_meet
            exact ⟨rfl, (by repeat (first | with_reducible assumption | with_reducible exact Below.refl _ _ | with_reducible refine Below.drew ?_ | with_reducible refine below_drewN ?_ _ | with_reducible refine below_alloc ?_ _ | with_reducible refine Below.alloc ?_ (by first | omega | (simp; done) | (simp; omega)) _ | with_reducible refine Below.setCell ?_ (by first | omega | (simp; done) | (simp; omega)) _ | with_reducible refine below_setRow ?_ (by first | omega | (simp; done) | (simp; omega)) _))⟩
      case rest =>
        obtain ⟨rfl, hb9⟩ := hcut
        obtain ⟨w9, rfl⟩ : ∃ wx_ : World, wx_ = wc := ⟨_, rfl⟩
        have HG9 := hid (HK.out.below hb9)
        obtain ⟨m0, ml, x0, x1, x2, xl, bl, bf, hc⟩ := CEL.out w9 hb9
        obtain ⟨y0, y1, y2⟩ := hc k y (gap_at (by have := HL.out; have := HKN.out; omega))
        have f0 := bf (k * 3)
        have f1 := bf (k * 3 + 1)
        have f2 := bf (k * 3 + 2)
        clear hb9 bf CEL
        cases f with
        | true =>
          obtain ⟨t, hk0, ht, hbt⟩ := HFD.out.1 rfl
          obtain ⟨p, hp⟩ : ∃ p, k = p + 1 := ⟨k - 1, by omega⟩
          subst hp
          rw [Nat.add_sub_cancel] at ht
          obtain ⟨c0, c1, c2⟩ := hc p t (by rw [gap_lt (by have := HL.out; have := HKN.out; omega) (by omega)]; exact ht)
          have F := hid (HG9.out.step HH.out ht hbt)
          have iw1 : IntKind.i64.wrap ((p : Int) + 1 - 1) = (p : Int) := by rw [show (p : Int) + 1 - 1 = (p : Int) by omega]; exact IntWalk.i64_in _ (by omega)
          have iw2 : IntKind.i64.wrap (p : Int) = (p : Int) := IntWalk.i64_in _ (by omega)
          clear hc hk0 ht hbt hk HK HG9
          go_upto_region 8 with fail
          go_region
          go_wp2_with fail
          go_roundw
          case rel => exact ⟨p, t, by have := HKN.out; omega, by go_num, F⟩
          case measure => simp [intOf]
        | false =>
          have F := hid (HG9.out.last HH.out HSR.out HKN.out (fun t h0 ht hbt => by have := HFD.out.2 ⟨t, h0, ht, hbt⟩; cases this))
          have FIN : Hid (errQ L u = 0 ∧ RN B w (stW w9 b (k * 3) u).drew g (.slice A n cap) (pushQ L u)) := ⟨HER.out, by unfold pushQ; rw [if_pos HER.out]; exact F.out⟩
          clear hc hk HK HG9
          go_upto_region 10 with fail
          go_region
          go_wp2
          go_ret
          exact ⟨by rw [FIN.out.1]; rfl, FIN.out.2⟩
end Go.Proofs.Ytingeijodooocaa
