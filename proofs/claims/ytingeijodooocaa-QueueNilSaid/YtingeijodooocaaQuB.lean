/- Chapter 14's queue: List. -/
import Derived.Test.YtingeijodooocaaQuA
import Derived.Test.YtingeijodooocaaQuY
import Derived.Laws.IdiomRangeMap
namespace Go.Proofs.Ytingeijodooocaa
open Go.RowKit
variable {B q nA nH c : Nat} {w w' wr : World} {m : Option (Nat × Nat)} {A : WMap} {Hm : HMap} {D : List UInt8 → Hd} {L : List Wt}
theorem recW : RecT 29 22 3 32 Try.prog := recT_of Try.underlying22 (by kernel_rfl) (by kernel_rfl)
/-- What the loop has gathered: the tenant's waiters among those whose keys have come. -/
structure Gq (A : WMap) (t : List UInt8) (left : Int → Bool) (M : List Wt) : Prop where
  got : ∀ x ∈ M, (∃ y, A x.job = some (x, y)) ∧ x.ky = t ∧ left x.job = false
  jb : M.Pairwise fun a b => a.job ≠ b.job
  all : ∀ j v y, A j = some (v, y) → v.ky = t → left j = false → v ∈ M
theorem Gq.start (A : WMap) (t : List UInt8) : Gq A t (fun l => (A l).isSome) [] :=
  ⟨fun x h => (by cases h), List.Pairwise.nil, fun j v y h _ k => (by rw [h] at k; cases k)⟩
theorem Gq.more {t : List UInt8} {left : Int → Bool} {M : List Wt} {j : Int} {v : Wt} {y : Nat} (h : Gq A t left M) (hj : A j = some (v, y)) (hv : v.job = j) (hl : left j = true) (ht : v.ky = t) : Gq A t (fun l => left l && !decide (l = j)) (M ++ [v]) := by
  refine ⟨fun x hx => ?_, ?_, fun k u z hk hu hl2 => ?_⟩
  · rcases List.mem_append.1 hx with e | e
    · obtain ⟨a1, a2, a3⟩ := h.got x e
      exact ⟨a1, a2, by simp [a3]⟩
    · obtain rfl := List.mem_singleton.1 e
      exact ⟨⟨y, by rw [hv]; exact hj⟩, ht, by simp [hv]⟩
  · refine List.pairwise_append.2 ⟨h.jb, by simp, fun a ha b hb e => ?_⟩
    obtain rfl := List.mem_singleton.1 hb
    have := (h.got a ha).2.2
    rw [e, hv, hl] at this
    cases this
  · by_cases e : k = j
    · rw [e, hj] at hk
      injection hk with hk
      injection hk with hk _
      rw [← hk]; simp
    · refine List.mem_append_left _ (h.all k u z hk hu ?_)
      simpa [e] using hl2
theorem Gq.skip {t : List UInt8} {left : Int → Bool} {M : List Wt} {j : Int} {v : Wt} {y : Nat} (h : Gq A t left M) (hj : A j = some (v, y)) (ht : v.ky ≠ t) : Gq A t (fun l => left l && !decide (l = j)) M := by
  refine ⟨fun x hx => ?_, h.jb, fun k u z hk hu hl2 => ?_⟩
  · obtain ⟨a1, a2, a3⟩ := h.got x hx
    exact ⟨a1, a2, by simp [a3]⟩
  · by_cases e : k = j
    · rw [e, hj] at hk
      injection hk with hk
      injection hk with hk _
      rw [← hk] at hu
      exact absurd hu ht
    · refine h.all k u z hk hu ?_
      simpa [e] using hl2
/-- Sorted, it is the tenant's list. -/
theorem Gq.fin (h : QuV B w q m nA A nH Hm D L c) {t : List UInt8} {left : Int → Bool} {M N : List Wt} (g : Gq A t left M) (hl : ∀ l, left l = false) (hp : N.Perm M) (hs : N.Pairwise (fun x y => ¬ (x.pri < y.pri ∨ (y.pri = x.pri ∧ y.job < x.job)))) : N = lsQ t L := by
  have hmem : ∀ x, x ∈ N ↔ x ∈ lsQ t L := fun x => by
    rw [hp.mem_iff, mem_lsQ, h.mem]
    constructor
    · intro hx
      obtain ⟨a1, a2, -⟩ := g.got x hx
      exact ⟨a1, a2⟩
    · rintro ⟨⟨y, hy⟩, ht⟩
      exact g.all _ x y hy ht (hl _)
  have hjb : N.Pairwise fun a b => a.job ≠ b.job := hp.symm.pairwise g.jb (fun h e => h e.symm)
  refine SrtQ.unique ⟨?_, hjb⟩ (h.srt.ls t) hmem
  have h2 := List.Pairwise.and hs hjb
  refine List.Pairwise.imp_of_mem (fun {a b} ha hb hab => ?_) h2
  obtain ⟨h3, h4⟩ := hab
  refine .inr ⟨?_, ?_⟩
  · rw [(mem_lsQ.1 ((hmem a).1 ha)).2, (mem_lsQ.1 ((hmem b).1 hb)).2]
  · omega
theorem below_grown {B : Nat} {w w' : World} {row : Option Nat} (hg : w.grownBy w' row) (hB : B ≤ w.heap.size) (hr : ∀ j, row = some j → B ≤ j) : Below B w w' := Below.grown (Below.refl _ _) hg hB hr
theorem rowR_at {B n z g : Nat} {w : World} {T : TypeId} {v : Value} {xs : List Value} (h : w.ownsRow B T z v n xs) (hg : v.ownBlock = some g) : ∃ cur, w.heap[g]? = some (.cells cur T (0, 0)) := by
  obtain ⟨-, ⟨rfl, -⟩ | ⟨g', cap, cur, rfl, -, hh, -⟩⟩ := h
  · cases hg
  · cases hg
    exact ⟨cur, hh⟩
set_option maxRecDepth 20000 in
set_option maxHeartbeats 8000000 in
theorem qlist_g (h : QuV B w q m nA A nH Hm D L c) (hn : L.length ≤ 1000) (s : ByteArray) :
    Calls Try.prog 14 #[.pointer (some ⟨q, 0, none⟩), .string s] w fun e w' => ∃ v, e = .returned v ∧ w'.ownsRow w.heap.size 29 3 v (lsQ s.data.toList L).length (flatR 3 fW (lsQ s.data.toList L)) ∧ Below w.heap.size w w' := by
  rcases m with _ | ⟨bm, bh⟩
  · obtain ⟨e1, e2, e3, e4⟩ := h.r.off rfl
    have hL : L = [] := by
      have := h.len
      rw [e1] at this
      exact List.eq_nil_of_length_eq_zero this.symm
    have c0 : w.cell? ⟨q, 0, none⟩ = some (.map none) := h.r.head.1
    have hlq := h.r.ltq
    have hrun := run_range_nilMap (P := Try.prog) w 51 2 62 Try.underlying51
    have hnext := fun ty => run_next_nilMap (P := Try.prog) w ty 0 0 #[]
    have hsort : ∀ W : World, Calls Try.prog 29 #[.slice none 0 0, .func (.func 30) #[] #[]] W fun e w' => e = .returned (.tuple #[]) ∧ w' = W := fun W => AnyF.slices_SortFunc_none Try.sortW none 0 _ W
    rw [hL]
    clear h
    go_enter Try.func14, Try.ntmps14
    go_wp2
    refine wp_loop_rounds 1 ?_
    rw [rounds_succ]
    go_wp2_with fail
    refine (hsort _).mono ?_
    rintro e w1 ⟨rfl, rfl⟩
    go_wp2
    go_ret
    exact ⟨_, rfl, World.ownsRow_nil _ _ _ _, (by repeat (first | with_reducible assumption | with_reducible exact Below.refl _ _ | with_reducible refine Below.drew ?_ | with_reducible refine below_drewN ?_ _ | with_reducible refine below_alloc ?_ _ | with_reducible refine Below.alloc ?_ (by first | omega | (simp; done) | (simp; omega)) _ | with_reducible refine Below.setCell ?_ (by first | omega | (simp; done) | (simp; omega)) _ | with_reducible refine below_setRow ?_ (by first | omega | (simp; done) | (simp; omega)) _))⟩
  · have HH := hid h
    have HN : Hid (nA ≤ 1000) := by unfold Hid; rw [h.len]; exact hn
    obtain ⟨o1, -, hBm, -⟩ := h.r.on bm bh rfl
    have c0 : w.cell? ⟨q, 0, none⟩ = some (.map (some bm)) := h.r.head.1
    have hlq := h.r.ltq
    have HLB : Hid (bm < w.heap.size) := o1.lt
    obtain ⟨w2, hrun, hr2, hg2, hs2⟩ := o1.range Try.underlying2 Try.underlying51
    have HI2 : Hid (RangesI w2 Try.prog 2 mkW bm w.heap.size nA A (fun l => (A l).isSome) nA ∧ Below w.heap.size w w2 ∧ w.heap.size < w2.heap.size ∧ w2.ownsRow w.heap.size 29 3 (.slice none 0 0) 0 (flatR 3 fW []) ∧ Gq A s.data.toList (fun l => (A l).isSome) [] ∧ 0 + nA ≤ nA) :=
      ⟨hr2, below_grown hg2 (Nat.le_refl _) (fun j e => by cases e), by omega, World.ownsRow_nil _ _ _ _, Gq.start _ _, by simp⟩
    clear h hn o1 hBm hr2 hg2 hs2
    go_enter Try.func14, Try.ntmps14
    go_wp2
    clear hrun
    go_loopw [5] (fun sv wr => ∃ (left : Int → Bool) (cnt n : Nat) (M : List Wt) (v : Value), v = sv ∧ Hid (RangesI wr Try.prog 2 mkW bm w.heap.size nA A left cnt ∧ Below w.heap.size w wr ∧ w.heap.size < wr.heap.size ∧ wr.ownsRow w.heap.size 29 3 v n (flatR 3 fW M) ∧ Gq A s.data.toList left M ∧ n + cnt ≤ nA)) (fun _ wr => wr.rangeLeft bm w.heap.size)
    case atStart => exact ⟨_, _, 0, [], _, rfl, HI2⟩
    case round =>
      clear HI2
      obtain ⟨left, cnt, n, M, v, rfl, HI⟩ := hrel
      have HML : Hid (M.length = n) := rowR_len HI.out.2.2.2.1 (by omega)
      rcases RangesI.next HI.out.1 Try.underlying2 0 with ⟨h0, hl0, hrun⟩ | ⟨j, x, w3, cnt', hwf, hleft, hA, hrun, hrg3, hlt3, hg3, hs3, hen⟩
      · have hsrt := sortW_any v HI.out.2.2.2.1 (by have := HI.out.2.2.2.2.2; have := HN.out; omega)
        have HL0 := hid hl0
        clear hl0 h0
        go_wp2_with fail
        refine hsrt.mono ?_
        rintro e w5 ⟨rfl, N, hp, hs, hrow, hg⟩
        have e1 := HI.out.2.2.2.2.1.fin HH.out HL0.out hp hs
        have FIN : Hid (w5.ownsRow w.heap.size 29 3 v (lsQ s.data.toList L).length (flatR 3 fW (lsQ s.data.toList L)) ∧ Below w.heap.size w w5) := by
          refine ⟨?_, HI.out.2.1.trans (below_grown hg HI.out.2.1.size (fun g e => (HI.out.2.2.2.1.lt g e).1))⟩
          rw [← e1, hp.length_eq, HML.out]
          exact hrow
        clear hp hs hrow hg e1 hsrt HI
        go_wp2
        go_ret
        exact ⟨v, rfl, FIN.out.1, FIN.out.2⟩
      · obtain ⟨⟨a, b, d⟩, e⟩ := x
        have hjb := (HH.out.job j _ _ hA).1
        simp only at hjb
        subst hjb
        simp only [mkW] at hrun hen
        obtain ⟨A3, cap3, rfl⟩ := rowR_shape HI.out.2.2.2.1
        have hb3 : Below w.heap.size w w3 := HI.out.2.1.trans (below_grown hg3 HI.out.2.1.size (fun g e => by injection e with e; omega))
        have hrw3 : w3.ownsRow w.heap.size 29 3 (.slice A3 n cap3) n (flatR 3 fW M) := rowR_kept HI.out.2.2.2.1 (fun g hg => hg3.block g (HI.out.2.2.2.1.lt g hg).2 (fun e => by
          injection e with e
          obtain ⟨sx, sy, sz, hit⟩ := HI.out.1.iter
          obtain ⟨cc, hh⟩ := rowR_at HI.out.2.2.2.1 hg
          rw [e] at hh
          rw [hit] at hh
          cases hh))
        have hk3 : w.heap.size < w3.heap.size := by have := HI.out.2.2.1; omega
        have HRG : Hid (∀ W, W.heap[bm]? = w3.heap[bm]? → W.heap[w.heap.size]? = w3.heap[w.heap.size]? → RangesI W Try.prog 2 mkW bm w.heap.size nA A (fun l => left l && !decide (l = a)) cnt') := fun W e1 e2 => RangesI.at hrg3 e1 e2
        have hne : (Value.slice A3 n cap3).ownBlock ≠ some w.heap.size := fun e => by
          obtain ⟨cc, hh⟩ := rowR_at hrw3 e
          obtain ⟨sx, sy, sz, hit⟩ := hrg3.iter
          rw [hit] at hh
          cases hh
        have hbm3 : bm < w3.heap.size := Nat.lt_trans HLB.out hk3
        have HRL : Hid (wr.rangeLeft bm w.heap.size = cnt) := HI.out.1.left_eq
        have HLT := hid hlt3
        have HCN : Hid (n + cnt ≤ nA ∧ wr.heap.size = w3.heap.size) := ⟨HI.out.2.2.2.2.2, hs3.symm⟩
        have HGQ := hid HI.out.2.2.2.2.1
        have HAj := hid hA
        have HLF := hid hleft
        by_cases hq : b.data.toList = s.data.toList
        · have heq : (b.toList == s.toList) = true := by simp [Go.Lib.toList_data, hq]
          have HG2 : Hid (Gq A s.data.toList (fun l => left l && !decide (l = a)) (M ++ [⟨a, b, d⟩])) := HGQ.out.more HAj.out rfl HLF.out hq
          have hb0 : Below w3.heap.size w3 ((w3.alloc (.cells #[.int .i64 a, .string b, .int .i64 d, .int .i64 (e : Nat)] 62)).alloc (.cells #[.int .i64 a, .string b, .int .i64 d] 29)) := (by repeat (first | with_reducible assumption | with_reducible exact Below.refl _ _ | with_reducible refine Below.drew ?_ | with_reducible refine below_drewN ?_ _ | with_reducible refine below_alloc ?_ _ | with_reducible refine Below.alloc ?_ (by first | omega | (simp; done) | (simp; omega)) _ | with_reducible refine Below.setCell ?_ (by first | omega | (simp; done) | (simp; omega)) _ | with_reducible refine below_setRow ?_ (by first | omega | (simp; done) | (simp; omega)) _))
          have ha : ((w3.alloc (.cells #[.int .i64 a, .string b, .int .i64 d, .int .i64 (e : Nat)] 62)).alloc (.cells #[.int .i64 a, .string b, .int .i64 d] 29)).heap[w3.heap.size + 1]? = some (.cells #[.int .i64 a, .string b, .int .i64 d] 29 (0, 0)) := (by (repeat (first | (with_reducible assumption) | (with_reducible exact alloc_at _ _) | ((with_reducible apply alloc_at'); (simp; done)) | (with_reducible apply alloc_at_lt) | (with_reducible apply heap_drew_at) | (with_reducible apply heap_drewN_at) | (with_reducible apply heap_setCell_same) | ((with_reducible apply heap_set_ne); (first | omega | (dsimp only; omega) | (simp; done) | (simp; omega))) | (with_reducible apply setRow_at) | ((with_reducible apply setRow_ne); (first | omega | (dsimp only; omega) | (simp; done) | (simp; omega))))))
          obtain ⟨g, cap4, w8, happ, hown, hG, -, -, hb8⟩ := rowR_app (m := [(⟨a, b, d⟩ : Wt)]) (f := fW) recW (by omega) fW_one (rowR_below hrw3 hb0) (by have := HN.out; have := HCN.out.1; simp; omega) (by have := HN.out; have := HCN.out.1; simp; omega) (Nat.le_trans hb3.size hb0.size) ⟨w3.heap.size + 1, 0, none⟩ 1 (by simp) (fun o x hx => by
            have ho : o < 3 := by
              have := (List.getElem?_eq_some_iff.1 hx).1
              rw [flatR_len] at this
              simpa using this
            have e0 : (⟨w3.heap.size + 1, 0, none⟩ : Addr).add o = ⟨w3.heap.size + 1, o, none⟩ := by unfold Addr.add; split <;> simp_all
            rw [e0, blk_cell ha, ← hx, flatR_one, fW_range]
            simp)
          have HAPP := hid happ
          have HI8 : Hid (RangesI w8 Try.prog 2 mkW bm w.heap.size nA A (fun l => left l && !decide (l = a)) cnt' ∧ Below w.heap.size w w8 ∧ w.heap.size < w8.heap.size ∧ w8.ownsRow w.heap.size 29 3 (.slice (some ⟨g, 0, none⟩) (n + 1) cap4) (n + 1) (flatR 3 fW (M ++ [⟨a, b, d⟩])) ∧ Gq A s.data.toList (fun l => left l && !decide (l = a)) (M ++ [⟨a, b, d⟩]) ∧ n + 1 + cnt' ≤ nA) :=
            ⟨HRG.out w8 ((hb8.block _ HLB.out).trans (hb0.block _ hbm3)) ((hG.block _ (Nat.lt_of_lt_of_le hk3 hb0.size) (fun e => hne e.symm)).trans (hb0.block _ hk3)), (hb3.trans (hb0.mono hb3.size)).trans hb8, Nat.lt_of_lt_of_le (Nat.lt_of_lt_of_le hk3 hb0.size) hG.size, hown, HG2.out, by have := HCN.out.1; omega⟩
          clear happ hown hG hb8 ha hb0 hrw3 hrg3 hne hq hA hleft hlt3 hg3 hs3 HI
          go_wp2_with (first | (at_builtin; refine wpList_append_eq rfl _ _ _ rfl rfl rfl HAPP.out ?_))
          go_roundw
          case rel => exact ⟨_, cnt', n + 1, _, _, rfl, HI8⟩
          case measure => rw [HI8.out.1.left_eq, HRL.out]; exact HLT.out
        · have heq : (b.toList == s.toList) = false := by
            rw [beq_eq_false_iff_ne]
            intro e2
            exact hq (by simpa [Go.Lib.toList_data] using e2)
          have HG2 : Hid (Gq A s.data.toList (fun l => left l && !decide (l = a)) M) := HGQ.out.skip HAj.out hq
          have HI8 : Hid (∀ W, Below w3.heap.size w3 W → RangesI W Try.prog 2 mkW bm w.heap.size nA A (fun l => left l && !decide (l = a)) cnt' ∧ Below w.heap.size w W ∧ w.heap.size < W.heap.size ∧ W.ownsRow w.heap.size 29 3 (.slice A3 n cap3) n (flatR 3 fW M) ∧ Gq A s.data.toList (fun l => left l && !decide (l = a)) M ∧ n + cnt' ≤ nA) := fun W hb =>
            ⟨HRG.out W (hb.block _ hbm3) (hb.block _ hk3), hb3.trans (hb.mono hb3.size), Nat.lt_of_lt_of_le hk3 hb.size, rowR_below hrw3 hb, HG2.out, by have := HCN.out.1; have := HLT.out; omega⟩
          clear hrw3 hrg3 hne hq hA hleft hlt3 hg3 hs3 HI
          go_wp2
          go_roundw
          case rel => exact ⟨_, cnt', n, M, _, rfl, HI8.out _ (by repeat (first | with_reducible assumption | with_reducible exact Below.refl _ _ | with_reducible refine Below.drew ?_ | with_reducible refine below_drewN ?_ _ | with_reducible refine below_alloc ?_ _ | with_reducible refine Below.alloc ?_ (by first | omega | (simp; done) | (simp; omega)) _ | with_reducible refine Below.setCell ?_ (by first | omega | (simp; done) | (simp; omega)) _ | with_reducible refine below_setRow ?_ (by first | omega | (simp; done) | (simp; omega)) _))⟩
          case measure => rw [(HI8.out _ (by repeat (first | with_reducible assumption | with_reducible exact Below.refl _ _ | with_reducible refine Below.drew ?_ | with_reducible refine below_drewN ?_ _ | with_reducible refine below_alloc ?_ _ | with_reducible refine Below.alloc ?_ (by first | omega | (simp; done) | (simp; omega)) _ | with_reducible refine Below.setCell ?_ (by first | omega | (simp; done) | (simp; omega)) _ | with_reducible refine below_setRow ?_ (by first | omega | (simp; done) | (simp; omega)) _))).1.left_eq, HRL.out]; exact HLT.out
end Go.Proofs.Ytingeijodooocaa
