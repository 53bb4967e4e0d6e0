/- Chapter 8's gathered over the heap in memory. -/
import Derived.Test.YteccpjijlkjneaaFbO
import Derived.Laws.Rows
namespace Go.Proofs.Yteccpjijlkjneaa
open Go.RowKit
/-- The 64 cells of 'by'. -/
def arrB (b : Nat → Int) : Array Value := Array.ofFn (fun i : Fin 64 => Value.int .i64 (b i))
theorem arrB_size (b : Nat → Int) : (arrB b).size = 64 := by unfold arrB; simp
theorem arrB_get (b : Nat → Int) {i : Nat} (h : i < 64) : (arrB b)[i]? = some (.int .i64 (b i)) := by
  unfold arrB
  rw [Array.getElem?_ofFn]
  simp [h]
theorem arrB_set (b : Nat → Int) {i : Nat} (h : i < 64) (z : Int) : (arrB b).setIfInBounds i (.int .i64 z) = arrB (up b i z) := by
  apply Array.ext
  · simp [arrB_size]
  · intro j h1 h2
    rw [Array.size_setIfInBounds, arrB_size] at h1
    apply Option.some.inj
    rw [← Array.getElem?_eq_getElem, ← Array.getElem?_eq_getElem, Array.getElem?_setIfInBounds, arrB_size, arrB_get _ h1]
    by_cases e : i = j
    · subst e; rw [if_pos rfl, if_pos h, arrB_get _ h, up_same]
    · rw [if_neg e, arrB_get _ h1, up_ne _ _ (Ne.symm e)]
theorem zeroB (w : World) : (zeroValue 107).run Try.prog w = .ok (.agg (arrB (fun _ => 0))) w := by kernel_rfl
theorem infoB (b : Nat → Int) : (Try.prog.info? 107).map (·.size) = some (arrB b).size := by rw [arrB_size]; kernel_rfl
theorem idxB (b : Nat → Int) {k : Nat} (h : k < 64) (W : World) : (Instr.index 107 (.agg (arrB b)) (.int .i64 (k : Int))).run Try.prog W = .ok (.int .i64 (b k)) W := by
  have hn : 0 ≤ (k : Int) ∧ (k : Int) < 64 := by omega
  have hg := arrB_get b h
  simp [Instr.index, run_underlying Try.underlying107, asIntOf, hn, h, hg, go_sem]
attribute [local go_sem ↓] zeroB
attribute [local go_sem] idxB
variable {B H g cap : Nat} {w w' : World} {s s' : Hp} {least n : Int}
/-- What gathered keeps of the entries. -/
def SameK (s s' : Hp) : Prop := s'.m = s.m ∧ s'.key = s.key ∧ s'.th = s.th
theorem SameK.refl (s : Hp) : SameK s s := ⟨rfl, rfl, rfl⟩
theorem SameK.trans {a b c : Hp} (h : SameK a b) (k : SameK b c) : SameK a c := ⟨k.1.trans h.1, k.2.1.trans h.2.1, k.2.2.trans h.2.2⟩
/-- A row of handles in a block of its own, neither H nor g. -/
def RowA (w : World) (H g : Nat) (v : Value) (l : List Nat) : Prop := w.ownsRow 0 3 1 v l.length (rowI l) ∧ ∀ k, v.ownBlock = some k → k ≠ H ∧ k ≠ g
theorem RowA.tur {v : Value} {l : List Nat} (h : RowA w H g v l) (ht : Tur (FootG H g) w w') : RowA w' H g v l := by
  refine ⟨?_, h.2⟩
  obtain ⟨h3, h4 | ⟨g', cap', cur, rfl, hg, hh, rest⟩⟩ := h.1
  · exact ⟨h3, .inl h4⟩
  · refine ⟨h3, .inr ⟨g', cap', cur, rfl, hg, (ht.kept g' (lt_of_at hh) ?_).trans hh, rest⟩⟩
    have := h.2 g' rfl
    rintro (e | e)
    · exact this.1 e
    · exact this.2 e
theorem RowA.cell {v : Value} {l : List Nat} (h : RowA w H g v l) {j : Nat} (hj : j < l.length) : ∃ q cap', v = .slice (some ⟨q, 0, none⟩) l.length cap' ∧ q < w.heap.size ∧ w.cell? ⟨q, j, none⟩ = some (.int .i64 (l[j] : Int)) := by
  obtain ⟨h3, ⟨-, h4⟩ | ⟨q, cap', cur, rfl, hg, hh, -, -, -, ht⟩⟩ := h.1
  · omega
  · refine ⟨q, cap', rfl, lt_of_at hh, ?_⟩
    rw [blk_cell hh]
    have : (rowI l)[j]? = some (.int .i64 (l[j] : Int)) := by unfold rowI; rw [List.getElem?_map, List.getElem?_eq_getElem hj]; rfl
    rw [← ht, List.getElem?_take, if_pos (by omega)] at this
    simpa using this
/-- A round of gathered: the heap, its entries and tops, 'by' at block p. -/
structure GW (B : Nat) (w0 w : World) (H g cap p : Nat) (s0 : Hp) (least n : Int) (s : Hp) (kids : Nat → List Nat) (L : List Nat) (b : Nat → Int) (A : List Nat) : Prop where
  heap : HeapG B w H g cap s least n
  gt : Gt s kids L b A
  same : SameK s0 s
  by_ : w.heap[p]? = some (.cells (arrB b) 107 (0, 0))
  tur : Tur (FootG H g) w0 w
theorem Tur.setNew {F : Nat → Prop} {w0 w : World} (h : Tur F w0 w) {p : Addr} (hp : w0.heap.size ≤ p.block) (v : Value) : Tur F w0 (w.setCell p v) :=
  ⟨h.os, h.tape, h.output, by simpa using h.size, fun k hk hn => (heap_setCell_other w p k v (by omega)).trans (h.kept k hk hn)⟩
theorem set_by {p d : Nat} {b : Nat → Int} {z : Int} (hb : w.heap[p]? = some (.cells (arrB b) 107 (0, 0))) (hd : d < 64) : (w.setCell ⟨p, d, none⟩ (.int .i64 z)).heap[p]? = some (.cells (arrB (up b d z)) 107 (0, 0)) := by
  have e := heap_setCell_same w p d _ _ (.int .i64 z) hb
  rwa [arrB_set b hd z] at e
theorem HeapG.setO {p d : Nat} {v : Value} (h : HeapG B w H g cap s least n) (h1 : p ≠ H) (h2 : p ≠ g) : HeapG B (w.setCell ⟨p, d, none⟩ v) H g cap s least n :=
  h.at (heap_setCell_other w ⟨p, d, none⟩ H v (Ne.symm h1)) (heap_setCell_other w ⟨p, d, none⟩ g v (Ne.symm h2))
theorem under_clash {w0 : World} {p d x y a c : Nat} {s0 : Hp} {kids : Nat → List Nat} {L A : List Nat} {b : Nat → Int} (h : HeapG B w H g cap s least n) (hgt : Gt s kids L b (x :: A)) (hm : s.m ≤ 1048576) (same : SameK s0 s) (hd : d = (kids x).length) (hb : b d = (y : Int) + 1)
    (hby : w.heap[p]? = some (.cells (arrB (up b d 0)) 107 (0, 0))) (tur : Tur (FootG H g) w0 w) (hpH : p ≠ H) (hpg : p ≠ g) (hac : (s.lt y x ∧ a = y ∧ c = x) ∨ (¬ s.lt y x ∧ a = x ∧ c = y)) :
    Calls Try.prog 62 #[.pointer (some ⟨H, 0, none⟩), .int .i64 c, .int .i64 a] w fun e w' => e = .returned (.tuple #[]) ∧ ∃ s2 kids2 L2, GW B w0 w' H g cap p s0 least n s2 kids2 L2 (up b d 0) (a :: A) ∧ L2.length < L.length := by
  subst hd
  obtain ⟨tx, hxm, -, hd31⟩ := hgt.deg hm
  obtain ⟨⟨ty, hym, hxy⟩, hcl⟩ := hgt.clash hm hb
  obtain ⟨kids2, hG, -⟩ := hcl a c hac
  have hxL := hgt.sub x (by simp)
  have hyL : y ∈ L := by
    obtain ⟨z, e, hz, -⟩ := hgt.b1 (kids x).length (by omega) (by omega)
    have : z = y := by omega
    subst this
    exact hz
  have q : s.th a = true ∧ a < s.m ∧ c < s.m ∧ a ≠ c ∧ c ∈ L ∧ a ∈ L := by
    rcases hac with ⟨-, rfl, rfl⟩ | ⟨-, rfl, rfl⟩
    · exact ⟨ty, hym, hxm, Ne.symm hxy, hxL, hyL⟩
    · exact ⟨tx, hxm, hym, hxy, hyL, hxL⟩
  obtain ⟨ta, ham, hcm, hne, hcL, haL⟩ := q
  have hcn := (hgt.fr.lth c hcL).2 a ta
  have hdg := hgt.fr.kdg a ta
  have hdl := hgt.fr.deg hm ta
  refine (under_g c a h ham hcm hm hne (by omega) ?_).mono ?_
  · rcases hgt.fr.child ta with ⟨e, -⟩ | ⟨z, t, e1, e2, hz, r, hr, hrm, hrt⟩
    · exact .inl e
    · rw [e1] at hcn
      exact .inr ⟨z, r, e2, hz, hrm, hrt, fun e => hcn (by simp [e]), fun e => hcn (by rw [e]; exact hr)⟩
  · rintro e w' ⟨rfl, h2, t2⟩
    obtain ⟨e1, e2, e3, -, -, -⟩ := Hp.underS_same s c a
    refine ⟨rfl, _, kids2, _, ⟨h2, hG, same.trans ⟨e1, e2, e3⟩, (t2.kept p (lt_of_at hby) (fun e => e.elim hpH hpg)).trans hby, tur.then t2⟩, ?_⟩
    rw [List.length_erase_of_mem hcL]
    have := List.length_pos_of_mem hcL
    omega
set_option maxRecDepth 100000 in
set_option maxHeartbeats 8000000 in
theorem gathered_g (L : List Nat) (kids : Nat → List Nat) (v : Value) (h : HeapG B w H g cap s least n) (hm : s.m ≤ 1048576) (hf : Frst s kids none L) (hrow : RowA w H g v L) (hn : n = ((List.range s.m).countP s.th : Int)) :
    Calls Try.prog 40 #[.pointer (some ⟨H, 0, none⟩), v] w fun e w' => e = .returned (.tuple #[]) ∧ ∃ s' least', HeapG B w' H g cap s' least' n ∧ Good s' least' n ∧ SameK s s' ∧ Tur (FootG H g) w w' := by
  have HH := hid h
  have HM := hid hm
  have HR := hid hrow
  have HNN := hid hn
  have hlH := h.ltH
  have hlg := h.ltg
  have hlen : L.length ≤ 1048576 := Nat.le_trans (nodup_le s.m L hf.lnd (fun z hz => hf.ltm z (hf.lth z hz).1)) hm
  have HF := hid hf
  obtain ⟨A0, cap0, rfl⟩ := slice_int hrow.1
  obtain ⟨ln, hln⟩ : ∃ ln, ln = L.length := ⟨_, rfl⟩
  have HLN := hid hln
  rw [← hln] at hlen ⊢
  clear h hm hf hrow hn hln
  go_enter Try.func40, Try.ntmps40
  go_upto_region 1 with (fail)
  refine wp_name ?_
  intro w1 hw1
  have X1 : w1.heap[w.heap.size]? = some (.cells (arrB (fun _ => 0)) 107 (0, 0)) := by rw [hw1]; exact (by (repeat (first | (with_reducible assumption) | (with_reducible exact alloc_at _ _) | ((with_reducible apply alloc_at'); (simp; done)) | (with_reducible apply alloc_at_lt) | (with_reducible apply heap_drew_at) | (with_reducible apply heap_drewN_at) | (with_reducible apply heap_setCell_same) | ((with_reducible apply heap_set_ne); (first | omega | (dsimp only; omega) | (simp; done) | (simp; omega))) | (with_reducible apply setRow_at) | ((with_reducible apply setRow_ne); (first | omega | (dsimp only; omega) | (simp; done) | (simp; omega))))))
  have B1 : Below w.heap.size w w1 := by rw [hw1]; exact (by repeat (first | with_reducible assumption | with_reducible exact Below.refl _ _ | with_reducible refine Below.drew ?_ | with_reducible refine below_drewN ?_ _ | with_reducible refine below_alloc ?_ _ | with_reducible refine Below.alloc ?_ (by first | omega | (simp; done) | (simp; omega)) _ | with_reducible refine Below.setCell ?_ (by first | omega | (simp; done) | (simp; omega)) _ | with_reducible refine below_setRow ?_ (by first | omega | (simp; done) | (simp; omega)) _))
  have T1 : Tur (FootG H g) w w1 := Tur.of_below B1
  have G1 : Hid (GW B w w1 H g cap w.heap.size s least n s kids L (fun _ => 0) (L.drop 0)) := ⟨HH.out.below B1, Gt.start HF.out, SameK.refl s, X1, T1⟩
  obtain ⟨p, hp⟩ : ∃ p, p = w.heap.size := ⟨_, rfl⟩
  have hpH : p ≠ H := by omega
  have hpg : p ≠ g := by omega
  rw [← hp] at G1 ⊢
  have HP := hid hp
  clear hw1 X1 B1 T1 hlH hlg hp
  go_wp2_with fail
  go_loopw [13] (fun i wr => ∃ (j : Nat) (s1 : Hp) (kids1 : Nat → List Nat) (L1 : List Nat) (b : Nat → Int), j ≤ ln ∧ i = .int .i64 j ∧ Hid (GW B w wr H g cap p s least n s1 kids1 L1 b (L.drop j))) (fun i _ => ln - (intOf i).toNat)
  case atStart => exact ⟨0, s, kids, L, _, Nat.zero_le _, rfl, G1⟩
  case round =>
    clear G1
    obtain ⟨j, s1, kids1, L1, b, hj, rfl, G⟩ := hrel
    have hpl := lt_of_at G.out.by_
    by_cases hjl : j < ln
    · have hj2 : j < L.length := by have := HLN.out; omega
      have HK1 : Hid (j + 1 ≤ ln) := hjl
      have HMS : Hid (ln - (j + 1) < ln - j) := by unfold Hid; omega
      have R := HR.out.tur G.out.tur
      obtain ⟨q, cap', e, hq, hqc⟩ := R.cell hj2
      injection e with e e7 e6
      subst e
      subst e6
      clear e7
      obtain ⟨x, hx⟩ : ∃ x, x = L[j] := ⟨_, rfl⟩
      have hdr : L.drop j = x :: L.drop (j + 1) := by rw [hx]; exact List.drop_eq_getElem_cons hj2
      rw [← hx] at hqc
      rw [hdr] at G
      have hji : (j : Int) < (ln : Int) := by omega
      have hm1 : s1.m ≤ 1048576 := by rw [G.out.same.1]; exact HM.out
      obtain ⟨tx, hxm, -, -⟩ := G.out.gt.deg hm1
      obtain ⟨c0, -, -, cf⟩ := G.out.heap.head
      obtain ⟨-, -, -, x3, -, -, -, -, x8, -⟩ := G.out.heap.cells hxm
      have gf := G.out.heap.free
      have hne := G.out.heap.ne
      have hne' := Ne.symm hne
      have ix : (x : Int) < (s1.m : Int) := by omega
      have HXM := hid hxm
      have HM1 := hid hm1
      clear R hj hjl hj2 hx hdr hxm tx hm1
      go_upto_region 4 with (fail)
      go_region_held3 (fun w' => w'.cell? ⟨H, 0, none⟩ = some (.slice (some ⟨g, 0, none⟩) s1.m cap)) (go_keep) (fail)
      all_goals
        go_wp2_with fail
        refine wp_name ?_
        intro w3 hw3
        have G3 : Hid (GW B w w3 H g cap p s least n { s1 with par := up s1.par x (-1), mr := up s1.mr x false } kids1 L1 b (x :: L.drop (j + 1))) := by
          rw [hw3]
          refine ⟨((G.out.heap.set HXM.out (by omega) (upd_par s1 x (-1))).set HXM.out (by omega) (upd_mr _ x false)).at rfl rfl, G.out.gt.bare, G.out.same, ?_, ?_⟩
          · exact heap_drew_at (heap_set_ne hpg (heap_set_ne hpg G.out.by_))
          · exact ((G.out.tur.then tur_g).then tur_g).then ⟨rfl, by simp, rfl, Nat.le_refl _, fun _ _ _ => rfl⟩
        clear hw3 G c0 cf x3 x8 gf hqc hq ix
        go_loopg [6] L1.length (fun k y wr => ∃ (x : Nat) (s1 : Hp) (kids1 : Nat → List Nat) (L1 : List Nat) (b : Nat → Int), y = .int .i64 x ∧ Hid (L1.length = k ∧ GW B w wr H g cap p s least n s1 kids1 L1 b (x :: L.drop (j + 1))))
        case atStart => exact ⟨x, _, kids1, L1, b, rfl, rfl, G3.out⟩
        case round =>
          clear G3
          obtain ⟨x, s1, kids1, L1, b, rfl, HG⟩ := hrel
          obtain ⟨hgk, G⟩ := HG.out
          have HGK := hid hgk
          have hm1 : s1.m ≤ 1048576 := by rw [G.same.1]; exact HM.out
          obtain ⟨tx, hxm, hdg, hd31⟩ := G.gt.deg hm1
          obtain ⟨c0, -, -, cf⟩ := G.heap.head
          obtain ⟨-, -, -, -, -, -, -, x7, -, -⟩ := G.heap.cells hxm
          rw [hdg] at x7
          obtain ⟨d, hd⟩ : ∃ d, d = (kids1 x).length := ⟨_, rfl⟩
          have HDD := hid hd
          rw [← hd] at x7 hd31
          have hpl := lt_of_at G.by_
          have p1 := (blk_cell G.by_ d).trans (arrB_get b (i := d) (by omega))
          have pf := blk_free G.by_
          have ix : (x : Int) < (s1.m : Int) := by omega
          have id64 : (d : Int) < 64 := by omega
          have ixb : (x : Int) ≤ 1048576 := by omega
          have HXM := hid hxm
          have HM1 := hid hm1
          have HGG := hid G
          clear hgk G HG hm1 tx hxm hdg hd
          by_cases hb : b d = 0
          · rw [hb] at p1
            have HB := hid hb
            clear hb
            have HF1 : Hid (GW B w (wr.setCell ⟨p, d, none⟩ (.int .i64 ((x : Int) + 1))) H g cap p s least n s1 kids1 L1 (up b d ((x : Int) + 1)) (L.drop (j + 1))) := by
              have hmk := HGG.out.gt.named (by rw [← HDD.out]; exact HB.out)
              rw [← HDD.out] at hmk
              exact ⟨HGG.out.heap.setO hpH hpg, hmk, HGG.out.same, set_by HGG.out.by_ (by omega), HGG.out.tur.setNew (Nat.le_of_eq HP.out.symm) _⟩
            clear HGG HB HDD HGK
            go_wp2
            go_roundw
            case rel => exact ⟨j + 1, s1, kids1, L1, _, HK1.out, by go_num, HF1⟩
            case measure => have := HMS.out; simp [intOf]; omega
          · obtain ⟨-, hgt, -, -, -⟩ := HGG.out
            obtain ⟨y, hby⟩ : ∃ y : Nat, b d = (y : Int) + 1 := by
              obtain ⟨z, e, -⟩ := hgt.b1 d (by omega) hb
              exact ⟨z, e⟩
            obtain ⟨⟨ty, hym, hxy⟩, -⟩ := hgt.clash HM1.out (by rw [← HDD.out]; exact hby)
            have HBY := hid hby
            have HGT := hid hgt
            rw [hby] at p1
            have kx := hgt.fr.okk x (hgt.fr.lth x (hgt.sub x (by simp))).1
            have ky := hgt.fr.okk y ty
            have HKX := hid kx
            have HKY := hid ky
            have HYM := hid hym
            have iyb : (y : Int) ≤ 1048576 := by have := HM1.out; omega
            have i4 : ((y : Int) + 1 != 0) = true := by simp; omega
            have i5 : IntKind.i64.wrap ((y : Int) + 1 - 1) = (y : Int) := by rw [show (y : Int) + 1 - 1 = (y : Int) by omega]; exact IntWalk.i64_in _ (by omega)
            have HF1 : Hid (HeapG B (wr.setCell ⟨p, d, none⟩ (.int .i64 0)) H g cap s1 least n ∧ (wr.setCell ⟨p, d, none⟩ (.int .i64 0)).heap[p]? = some (.cells (arrB (up b d 0)) 107 (0, 0)) ∧ Tur (FootG H g) w (wr.setCell ⟨p, d, none⟩ (.int .i64 0))) :=
              ⟨HGG.out.heap.setO hpH hpg, set_by HGG.out.by_ (by omega), HGG.out.tur.setNew (Nat.le_of_eq HP.out.symm) _⟩
            have HSAME := hid HGG.out.same
            clear hgt hb hby ty hym hxy kx ky HGG
            go_upto_region 9 with (fail)
            refine wp_name ?_
            intro w3 hw3
            rw [← hw3] at HF1
            obtain ⟨d0, -, -, df⟩ := HF1.out.1.head
            clear hw3 c0 cf x7 p1 pf hpl
            go_wp2_with fail
            refine (less_g y x HF1.out.1 HYM.out HXM.out HKY.out HKX.out).mono ?_
            rintro e w4 ⟨rfl, hb4⟩
            have HU : Hid (∀ a c : Nat, ((s1.lt y x ∧ a = y ∧ c = x) ∨ (¬ s1.lt y x ∧ a = x ∧ c = y)) → Calls Try.prog 62 #[.pointer (some ⟨H, 0, none⟩), .int .i64 c, .int .i64 a] w4 fun e w' => e = .returned (.tuple #[]) ∧ ∃ s2 kids2 L2, GW B w w' H g cap p s least n s2 kids2 L2 (up b d 0) (a :: L.drop (j + 1)) ∧ L2.length < L1.length) := fun a c hac =>
              under_clash (HF1.out.1.below hb4) HGT.out HM1.out HSAME.out HDD.out HBY.out ((hb4.block p (lt_of_at HF1.out.2.1)).trans HF1.out.2.1) (HF1.out.2.2.then (Tur.of_below hb4)) hpH hpg hac
            clear hb4 d0 df HF1 HYM HKX HKY HBY HGT HSAME
            cases hq : s1.ltB y x with
            | true =>
              have hl : s1.lt y x := of_decide_eq_true hq
              have HC := hid (HU.out y x (.inl ⟨hl, rfl, rfl⟩))
              clear hl hq HU
              go_wp2_with fail
              refine HC.out.mono ?_
              rintro e w5 ⟨rfl, s2, kids2, L2, hG2, hL2⟩
              have HN2 : Hid (GW B w w5 H g cap p s least n s2 kids2 L2 (up b d 0) (y :: L.drop (j + 1))) := hG2
              have HL2 : Hid (L2.length < gk) := by rw [← HGK.out]; exact hL2
              clear hG2 hL2 HC
              go_wp2
              go_roundg L2.length
              case rel => exact ⟨y, s2, kids2, L2, _, rfl, hid ⟨rfl, HN2.out⟩⟩
              case measure => exact HL2.out
            | false =>
              have hl : ¬ s1.lt y x := of_decide_eq_false hq
              have HC := hid (HU.out x y (.inr ⟨hl, rfl, rfl⟩))
              clear hl hq HU
              go_wp2_with fail
              refine HC.out.mono ?_
              rintro e w5 ⟨rfl, s2, kids2, L2, hG2, hL2⟩
              have HN2 : Hid (GW B w w5 H g cap p s least n s2 kids2 L2 (up b d 0) (x :: L.drop (j + 1))) := hG2
              have HL2 : Hid (L2.length < gk) := by rw [← HGK.out]; exact hL2
              clear hG2 hL2 HC
              go_wp2
              go_roundg L2.length
              case rel => exact ⟨x, s2, kids2, L2, _, rfl, hid ⟨rfl, HN2.out⟩⟩
              case measure => exact HL2.out
    · obtain rfl : j = ln := by omega
      have hdr : L.drop j = [] := by rw [HLN.out]; exact List.drop_length
      rw [hdr] at G
      have hne := G.out.heap.ne
      have hne' := Ne.symm hne
      obtain ⟨c0, c1, c2, cf⟩ := G.out.heap.head
      have p0 := G.out.by_
      have HB0 := hid G.out.by_
      have hpH' := Ne.symm hpH
      have HRS : Hid (HeapG B (wr.setCell ⟨H, 1, none⟩ (.int .i64 0)) H g cap s1 0 n ∧ Rs s1 kids1 L1 b 0 0 [] ∧ SameK s s1 ∧ Tur (FootG H g) w (wr.setCell ⟨H, 1, none⟩ (.int .i64 0))) := ⟨G.out.heap.setL 0, G.out.gt.roots, G.out.same, G.out.tur.then tur_h⟩
      have hm1 : s1.m ≤ 1048576 := by rw [G.out.same.1]; exact HM.out
      have HM1 := hid hm1
      have hpb : (wr.setCell ⟨H, 1, none⟩ (.int .i64 0)).heap[p]? = some (.cells (arrB b) 107 (0, 0)) := heap_set_ne hpH G.out.by_
      clear hdr G p0 hm1 hj hjl
      go_upto_region 15 with (fail)
      go_wp2_with (refine wpList_load_row rfl 107 (.tmp 4) rfl p (by simp [Act.eval]) _ _ _ _ hpb Try.underlying107 rfl (infoB _) ?_)
      obtain ⟨w5, hw5⟩ : ∃ w5, w5 = wr.setCell ⟨H, 1, none⟩ (.int .i64 0) := ⟨_, rfl⟩
      rw [← hw5] at HRS ⊢
      clear hw5 hpb HB0 c0 c1 c2 cf
      go_loopw [82] (fun i wr => ∃ (k : Nat) (s3 : Hp) (least3 : Int) (R : List Nat), k ≤ 64 ∧ i = .int .i64 k ∧ Hid (HeapG B wr H g cap s3 least3 n ∧ Rs s3 kids1 L1 b k least3 R ∧ SameK s s3 ∧ Tur (FootG H g) w wr)) (fun i _ => 64 - (intOf i).toNat)
      case atStart => exact ⟨0, s1, 0, [], by omega, rfl, HRS⟩
      case round =>
        clear HRS
        obtain ⟨k, s3, least3, R, hk, rfl, HQ⟩ := hrel
        by_cases hk64 : k < 64
        · have hget := arrB_get b hk64
          have hsz := arrB_size b
          have hki : (k : Int) < 64 := by omega
          have HK1 : Hid (k + 1 ≤ 64) := hk64
          have HMS : Hid (64 - (k + 1) < 64 - k) := by unfold Hid; omega
          have HK64 := hid hk64
          by_cases hb : b k = 0
          · have HF : Hid (HeapG B wr H g cap s3 least3 n ∧ Rs s3 kids1 L1 b (k + 1) least3 R ∧ SameK s s3 ∧ Tur (FootG H g) w wr) := ⟨HQ.out.1, HQ.out.2.1.none hb, HQ.out.2.2⟩
            clear hk
            go_wp2
            go_roundw
            case rel => exact ⟨k + 1, s3, least3, R, HK1.out, by go_num, HF⟩
            case measure => have := HMS.out; simp [intOf]; omega
          · obtain ⟨x, hbx⟩ : ∃ x : Nat, b k = (x : Int) + 1 := by
              obtain ⟨z, e, -⟩ := HQ.out.2.1.b1 k hk64 hb
              exact ⟨z, e⟩
            obtain ⟨⟨tx, hxm⟩, R', hR'⟩ := HQ.out.2.1.some hk64 hbx
            have hm3 : s3.m ≤ 1048576 := by rw [HQ.out.2.2.1.1]; exact HM.out
            have ixb : (x : Int) ≤ 1048576 := by omega
            have i4 : ((x : Int) + 1 != 0) = true := by simp; omega
            have i5 : IntKind.i64.wrap ((x : Int) + 1 - 1) = (x : Int) := by rw [show (x : Int) + 1 - 1 = (x : Int) by omega]; exact IntWalk.i64_in _ (by omega)
            have hsp := HQ.out.2.1.rt.spot
            have hxR : x ∉ R := fun hmem => by
              have h1 := (HQ.out.2.1.mem x).1 hmem
              have h2 := HQ.out.2.1.b2 x h1.1
              obtain ⟨z, e1, e2, e3⟩ := HQ.out.2.1.b1 k hk64 hb
              have : z = x := by omega
              subst this
              omega
            have kx := HQ.out.2.1.fr.okk x tx
            have hmemR : ∀ z ∈ R, s3.th z = true ∧ z < s3.m := fun z hz => by
              have h1 := ((HQ.out.2.1.mem z).1 hz).1
              exact ⟨(HQ.out.2.1.fr.lth z h1).1, HQ.out.2.1.fr.ltm z (HQ.out.2.1.fr.lth z h1).1⟩
            have HRC : Hid (Calls Try.prog 37 #[.pointer (some ⟨H, 0, none⟩), .int .i64 x] wr fun e w' => e = .returned (.tuple #[]) ∧ HeapG B w' H g cap (s3.rootS least3 x) (s3.rootL least3 x) n ∧ Tur (FootG H g) wr w') := by
              refine root_g x HQ.out.1 hxm hm3 kx ?_
              rcases hsp with ⟨e, -⟩ | ⟨y, t, eR, el, r, hr, hrt⟩
              · exact .inl e
              · rw [← eR] at hr
                have hyR : y ∈ R := by rw [eR]; simp
                exact .inr ⟨y, r, el, (hmemR y hyR).2, (hmemR r hr).2, hrt, fun e => hxR (by rw [e]; exact hyR), fun e => hxR (by rw [e]; exact hr), HQ.out.2.1.fr.okk y (hmemR y hyR).1⟩
            have HRR := hid hR'
            have HSK : Hid (SameK s (s3.rootS least3 x)) := by
              obtain ⟨e1, e2, e3, -, -⟩ := Hp.rootS_same s3 least3 x
              exact HQ.out.2.2.1.trans ⟨e1, e2, e3⟩
            have HT := hid HQ.out.2.2.2
            have HBX := hid hbx
            have hkr := idxB b hk64
            rw [hbx] at hkr
            clear hsp hxR kx hmemR hR' tx hxm hm3 hb hbx HQ hk
            go_upto_region 19 with (fail)
            go_wp2_with fail
            refine HRC.out.mono ?_
            rintro e w6 ⟨rfl, h6, t6⟩
            have HF : Hid (HeapG B w6 H g cap (s3.rootS least3 x) (s3.rootL least3 x) n ∧ Rs (s3.rootS least3 x) kids1 L1 b (k + 1) (s3.rootL least3 x) R' ∧ SameK s (s3.rootS least3 x) ∧ Tur (FootG H g) w w6) := ⟨h6, HRR.out, HSK.out, HT.out.then t6⟩
            clear h6 t6 HRR HSK HT HRC
            go_wp2
            go_roundw
            case rel => exact ⟨k + 1, _, _, R', HK1.out, by go_num, HF⟩
            case measure => have := HMS.out; simp [intOf]; omega
        · obtain rfl : k = 64 := by omega
          have HFIN : Hid (∃ s' least', HeapG B wr H g cap s' least' n ∧ Good s' least' n ∧ SameK s s' ∧ Tur (FootG H g) w wr) := by
            obtain ⟨q1, q2, q3, q4⟩ := HQ.out
            refine ⟨s3, least3, q1, q2.whole (by rw [q3.1]; exact HM.out) ?_, q3, q4⟩
            rw [q3.1, q3.2.2]
            exact HNN.out
          clear HQ hk hk64
          go_wp2
          go_end0
          exact ⟨rfl, HFIN.out⟩
end Go.Proofs.Yteccpjijlkjneaa
