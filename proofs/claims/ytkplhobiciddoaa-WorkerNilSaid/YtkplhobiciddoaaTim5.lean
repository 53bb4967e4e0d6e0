/- Contracts of chapter 10's Push and Pop, as container/heap calls them. -/
import Derived.Test.YtkplhobiciddoaaTim4
namespace Go.Proofs.Ytkplhobiciddoaa
open Go.RowKit
theorem infoAl : (Try.prog.info? 71).map (fun i => (i.zero, i.size, i.bytes)) = some (some (.agg #[.string ByteArray.empty, .int .i64 0]), 2, 24) := by kernel_rfl
theorem info_al : ∃ i, Try.prog.info? 71 = some i ∧ i.zero = some (.agg #[.string ByteArray.empty, .int .i64 0]) ∧ i.size = 2 ∧ i.bytes = 24 := by
  have h := infoAl
  cases hi : Try.prog.info? 71 with
  | none => rw [hi] at h; cases h
  | some i =>
    rw [hi] at h
    simp only [Option.map_some, Option.some.injEq, Prod.mk.injEq] at h
    exact ⟨i, rfl, h.1, h.2.1, h.2.2⟩
/-- One alarm is appended. -/
theorem app_al {B : Nat} {W : World} {v : Value} {l : List Al} (hB : B ≤ W.heap.size) (hR : W.ownsRow B 71 2 v l.length (flatT l)) (hm : l.length ≤ 100000) (ty : TypeId) (x : Al) (ad : Addr) (had : ∀ j u, (cellsT x)[j]? = some u → W.cell? (ad.add j) = some u) :
    ∃ g cap' w', (Builtin.append_ #[58, 58] ty #[v, .slice (some ad) 1 1]).run Try.prog W = .ok (.slice (some ⟨g, 0, none⟩) (l.length + 1) cap') w' ∧
      w'.ownsRow B 71 2 (.slice (some ⟨g, 0, none⟩) (l.length + 1) cap') (l.length + 1) (flatT (l ++ [x])) ∧ W.grownBy w' v.ownBlock ∧ (v.ownBlock = some g ∨ g = W.heap.size) := by
  obtain ⟨i0, hi, hz0, hz1, hz2⟩ := info_al
  obtain ⟨v', w', h1, h2, h3, -, h7⟩ := run_append_own_at (P := Try.prog) W B 58 ty 71 i0 _ 2 24 Try.underlying58 hi hz0 hz1 hz2 rfl (by omega) _ l.length (flatT l) hR ad 1 1 (cellsT x) rfl had (cellsT_one x) (by unfold maxLen; omega) (by omega) hB
  have h2' : w'.ownsRow B 71 2 v' (l.length + 1) (flatT (l ++ [x])) := by rw [flatT_append]; simpa [flatT] using h2
  obtain ⟨h4, ⟨rfl, h0⟩ | ⟨g, cap', cur, rfl, rest⟩⟩ := h2'
  · omega
  · refine ⟨g, cap', w', h1, ⟨h4, .inr ⟨g, cap', cur, rfl, rest⟩⟩, h3, ?_⟩
    rcases h7 with h7 | h7
    · exact .inl h7.symm
    · right; injection h7
theorem Idx.append {l : List Al} {I : List UInt8 → Option Int} (h : Idx l I) (x : Al) (hx : I x.1.data.toList = none) : Idx (l ++ [x]) (putA I x.1.data.toList (l.length : Int)) := by
  have hl : el (l ++ [x]) l.length = x := by rw [el_eq (by simp)]; simp
  intro k z
  by_cases e : k = x.1.data.toList
  · subst e
    rw [putA_same]
    constructor
    · intro e; injection e with e
      exact ⟨l.length, by simp, by rw [hl], e.symm⟩
    · rintro ⟨j, hj, hk, rfl⟩
      rcases Nat.lt_or_ge j l.length with h' | h'
      · rw [el_append_left h'] at hk
        have := h.at h'
        rw [hk, hx] at this
        cases this
      · have : j = l.length := by simp at hj; omega
        rw [this]
  · rw [putA_other _ _ e, h]
    constructor
    · rintro ⟨j, hj, hk, rfl⟩
      exact ⟨j, by simp; omega, by rw [el_append_left hj]; exact hk, rfl⟩
    · rintro ⟨j, hj, hk, rfl⟩
      rcases Nat.lt_or_ge j l.length with h' | h'
      · rw [el_append_left h'] at hk
        exact ⟨j, h', hk, rfl⟩
      · have : j = l.length := by simp at hj; omega
        rw [this, hl] at hk
        exact absurd hk.symm e
theorem Idx.last {l : List Al} {I : List UInt8 → Option Int} (h : Idx l I) (h0 : 0 < l.length) : Idx (l.take (l.length - 1)) (delA I (el l (l.length - 1)).1.data.toList) := by
  intro k z
  have hlen : (l.take (l.length - 1)).length = l.length - 1 := by simp
  by_cases e : k = (el l (l.length - 1)).1.data.toList
  · subst e
    rw [delA_same]
    constructor
    · intro e; cases e
    · rintro ⟨j, hj, hk, -⟩
      rw [hlen] at hj
      rw [el_take hj] at hk
      have := h.inj (by omega) (by omega) hk
      omega
  · rw [delA_other _ e, h]
    constructor
    · rintro ⟨j, hj, hk, rfl⟩
      have : j ≠ l.length - 1 := fun e1 => e (by rw [← hk, e1])
      exact ⟨j, by omega, by rw [el_take (by omega)]; exact hk, rfl⟩
    · rintro ⟨j, hj, hk, rfl⟩
      rw [hlen] at hj
      rw [el_take hj] at hk
      exact ⟨j, by omega, hk, rfl⟩
/-- What a call leaves that may lay the row anew. -/
def Post (B : Nat) (w w' : World) (c : Nat) (zn : Value) (v : Value) (b : Nat) (l' : List Al) (n' : Nat) : Prop :=
  ∃ v', Good B w' c zn v' b l' n' ∧ Tur (Foot c v (some b)) w w' ∧ ∀ k, Foot c v' (some b) k → Foot c v (some b) k ∨ w.heap.size ≤ k
theorem tassert (x : Value) (w : World) : (Instr.typeAssert (.iface 71 x) 20 71 false).run Try.prog w = .ok x w := by kernel_rfl
set_option maxHeartbeats 4000000 in
theorem push_o {zn : Value} (B c n b : Nat) (v : Value) (l : List Al) (s : ByteArray) (t : Int) (w : World) (h : Good B w c zn v b l n) (hn : n ≤ 100000) (hm : l.length ≤ 100000) (hs : s.size ≤ maxLen) (hnew : ∀ j, j < l.length → (el l j).1 ≠ s) :
    Calls Try.prog 107 #[.agg #[.pointer (some ⟨c, 1, none⟩)], .iface 71 (.agg #[.string s, .int .i64 t])] w fun e w' => e = .returned (.tuple #[]) ∧ Post B w w' c zn v b (l ++ [(s, t)]) (n + 1) := by
  obtain ⟨I, h1, h2, h3, h4⟩ := h
  have hI : I s.data.toList = none := by
    cases hk : I s.data.toList with
    | none => rfl
    | some z =>
      obtain ⟨j, hj, hk', -⟩ := (h2 _ _).1 hk
      exact absurd (Go.WideShapes.bytes_inj hk') (hnew j hj)
  obtain ⟨A, cap, rfl⟩ := h1.slice
  have hlt := h1.lt
  have HC := hid h1
  have HX := hid h2
  have HZ := hid h3
  have HB := hid h4
  have HI := hid hI
  have HS := hid hs
  have HN : Hid (n ≤ 100000) := hn
  have HM : Hid (l.length ≤ 100000) := hm
  clear h1 h2 h3 h4 hI hs hnew hn hm
  have tA := fun w => tassert (.agg #[.string s, .int .i64 t]) w
  go_enter Try.func107, Try.ntmps107
  go_upto_region 2 with fail
  refine wp_name ?_
  intro w0 hw0
  have A0 : w0.heap[w.heap.size]? = some (.cells #[.pointer (some ⟨c, 1, none⟩)] 86 (0, 0)) := by rw [hw0]; exact (by (repeat (first | (with_reducible assumption) | (with_reducible exact alloc_at _ _) | ((with_reducible apply alloc_at'); (simp; done)) | (with_reducible apply alloc_at_lt) | (with_reducible apply heap_drew_at) | (with_reducible apply heap_drewN_at) | (with_reducible apply heap_setCell_same) | ((with_reducible apply heap_set_ne); (first | omega | (dsimp only; omega) | (simp; done) | (simp; omega))) | (with_reducible apply setRow_at) | ((with_reducible apply setRow_ne); (first | omega | (dsimp only; omega) | (simp; done) | (simp; omega))))))
  have X0 : w0.heap[w.heap.size + 1]? = some (.cells #[.string s, .int .i64 t] 71 (0, 0)) := by rw [hw0]; exact at_of (by apply Exists.intro; refine ⟨?_, ?_⟩; (focus ((repeat (first | (with_reducible assumption) | (with_reducible exact alloc_at _ _) | ((with_reducible apply alloc_at'); (simp; done)) | (with_reducible apply alloc_at_lt) | (with_reducible apply heap_drew_at) | (with_reducible apply heap_drewN_at) | (with_reducible apply heap_setCell_same) | ((with_reducible apply heap_set_ne); (first | omega | (dsimp only; omega) | (simp; done) | (simp; omega))) | (with_reducible apply setRow_at) | ((with_reducible apply setRow_ne); (first | omega | (dsimp only; omega) | (simp; done) | (simp; omega))))))); simp)
  have B0 : Below w.heap.size w w0 := by rw [hw0]; exact (by repeat (first | with_reducible assumption | with_reducible exact Below.refl _ _ | with_reducible refine Below.drew ?_ | with_reducible refine below_drewN ?_ _ | with_reducible refine below_alloc ?_ _ | with_reducible refine Below.alloc ?_ (by first | omega | (simp; done) | (simp; omega)) _ | with_reducible refine Below.setCell ?_ (by first | omega | (simp; done) | (simp; omega)) _ | with_reducible refine below_setRow ?_ (by first | omega | (simp; done) | (simp; omega)) _))
  clear hw0
  clear tA
  have C0 := HC.out.below B0
  obtain ⟨c0, c1, -⟩ := C0.cell
  have l0 := lt_of_at A0
  have lx := lt_of_at X0
  have lc := C0.lt
  have a0 : w0.cell? ⟨w.heap.size, 0, none⟩ = some (.pointer (some ⟨c, 1, none⟩)) := (blk_cell A0 0).trans rfl
  have x0 : w0.cell? ⟨w.heap.size + 1, 0, none⟩ = some (.string s) := (blk_cell X0 0).trans rfl
  have e0 : ∀ lx_ : Lat w0.heap.size w0, lx_.w.cell? ⟨w.heap.size, 0, none⟩ = some (.pointer (some ⟨c, 1, none⟩)) := fun lx_ => by rw [lx_.cell _ _ l0]; exact a0
  have e1 : ∀ lx_ : Lat w0.heap.size w0, lx_.w.cell? ⟨c, 1, none⟩ = some (.slice A l.length cap) := fun lx_ => by rw [lx_.cell _ _ lc]; exact c0
  have e2 : ∀ lx_ : Lat w0.heap.size w0, lx_.w.cell? ⟨c, 2, none⟩ = some (.map (some b)) := fun lx_ => by rw [lx_.cell _ _ lc]; exact c1
  have e3 : ∀ lx_ : Lat w0.heap.size w0, lx_.w.cell? ⟨w.heap.size + 1, 0, none⟩ = some (.string s) := fun lx_ => by rw [lx_.cell _ _ lx]; exact x0
  refine wp_region_lat_tail 13 (by kernel_rfl) (by kernel_rfl) ?_
  simp only [List.take_succ_cons, List.take_zero, List.drop_succ_cons, List.drop_zero]
  repeat (go_big_quiet_step (fail))
  refine wpQuiet_nil ?_
  clear e0 e1 e2 e3
  rintro w1 ⟨x1, hx1⟩
  have hb1 := x1.h
  rw [← hx1] at hb1
  clear hx1 x1
  have C1 := C0.below hb1
  have A1 := below_at hb1 l0 A0
  have X1 := below_at hb1 lx X0
  have M1 : OwnsM w1 Try.prog 9 mkI b n I := C1.map
  obtain ⟨w2, hup, M2, G2, z2⟩ := M1.store (t := 59) (e := 3) mkI_inj Try.underlying9 Try.underlying59 (by have := HN.out; unfold maxLen; omega) HS.out (l.length : Int)
  unfold mkI at hup
  clear z2
  rw [HI.out] at M2
  simp only [Option.isSome_none, Bool.false_eq_true, if_false] at M2
  have hne := HC.out.map_ne b rfl
  have mAb : w.heap.size ≠ b := M1.ne A1
  have mXb : w.heap.size + 1 ≠ b := M1.ne X1
  have lc1 := C1.lt
  have l1 := lt_of_at A1
  have lx1 := lt_of_at X1
  have A2 : w2.heap[w.heap.size]? = some (.cells #[.pointer (some ⟨c, 1, none⟩)] 86 (0, 0)) := (G2.block _ l1 (fun e => mAb (by cases e; rfl))).trans A1
  have X2 : w2.heap[w.heap.size + 1]? = some (.cells #[.string s, .int .i64 t] 71 (0, 0)) := (G2.block _ lx1 (fun e => mXb (by cases e; rfl))).trans X1
  have K2 : w2.heap[c]? = some (.cells #[zn, .slice A l.length cap, .map (some b)] 63 (0, 0)) := (G2.block _ lc1 (fun e => hne.1 (by cases e; rfl))).trans C1.blk
  have R2 : w2.ownsRow B 71 2 (.slice A l.length cap) l.length (flatT l) := ownsRow_at C1.row (fun g hg => G2.block g (C1.row.lt g hg).2 (fun e => hne.2 (by cases e; exact hg)))
  have T2 : Tur (Foot c (.slice A l.length cap) (some b)) w w2 := (Tur.of_below (B0.trans (hb1.mono B0.size))).then (Tur.of_grown G2 (fun k e => by cases e; exact .inl (.inr (.inr rfl))))
  have HT2 := hid T2
  have HM2 := hid M2
  have HR2 := hid R2
  have HK2 := hid K2
  have HA2 := hid A2
  have HX2 := hid X2
  clear c0 c1 a0 x0 C0 A0 X0 hb1 C1 A1 X1 M1 M2 G2 mAb mXb T2 R2 K2 A2 X2 B0 lc1 l1 lx1
  go_upto_region 3 with fail
  clear hup
  have a2 : w2.cell? ⟨w.heap.size, 0, none⟩ = some (.pointer (some ⟨c, 1, none⟩)) := (blk_cell HA2.out 0).trans rfl
  have k2 : w2.cell? ⟨c, 1, none⟩ = some (.slice A l.length cap) := (blk_cell HK2.out 1).trans rfl
  have x20 : w2.cell? ⟨w.heap.size + 1, 0, none⟩ = some (.string s) := (blk_cell HX2.out 0).trans rfl
  have x21 : w2.cell? ⟨w.heap.size + 1, 1, none⟩ = some (.int .i64 t) := (blk_cell HX2.out 1).trans rfl
  have la2 := lt_of_at HA2.out
  have lx2 := lt_of_at HX2.out
  have lk2 := lt_of_at HK2.out
  have hB2 : B ≤ w2.heap.size := Nat.le_trans HB.out HT2.out.size
  have hrow := HR2.out.lt
  obtain ⟨g, cap', w4, happ, hown4, hG4, hgc⟩ := app_al (W := (w2.alloc (.cells #[.string s, .int .i64 t] 71)).drew) (by simp; omega) (ownsRow_at (w' := (w2.alloc (.cells #[.string s, .int .i64 t] 71)).drew) HR2.out (fun g hg => Below.heap_alloc _ _ _ (hrow g hg).2)) HM.out 58 (s, t) ⟨w2.heap.size, 0, none⟩ (World.news_of_block (heap_drew_at (alloc_at w2 _)))
  have hown_c : (Value.slice A l.length cap).ownBlock ≠ some c := HC.out.own_ne
  have A4 : w4.heap[w.heap.size]? = some (.cells #[.pointer (some ⟨c, 1, none⟩)] 86 (0, 0)) := (hG4.block _ (by simp; omega) (fun e => by have := (HC.out.row.lt _ e.symm).2; omega)).trans (heap_drew_at (alloc_at_lt HA2.out _))
  have K4 : w4.heap[c]? = some (.cells #[zn, .slice A l.length cap, .map (some b)] 63 (0, 0)) := (hG4.block c (by simp; omega) (fun e => hown_c e.symm)).trans (heap_drew_at (alloc_at_lt HK2.out _))
  have a4 : w4.cell? ⟨w.heap.size, 0, none⟩ = some (.pointer (some ⟨c, 1, none⟩)) := (blk_cell A4 0).trans rfl
  have k4 : w4.cell? ⟨c, 1, none⟩ = some (.slice A l.length cap) := (blk_cell K4 1).trans rfl
  have kf : ∀ i, w4.frozen? ⟨c, i, none⟩ = false := blk_free K4
  have hgl4 := (hown4.lt g rfl).2
  have hgc' : g ≠ c := by
    rcases hgc with h | h
    · intro e; subst e; exact hown_c h
    · intro e; simp at h; omega
  have hbl := HM2.out.lt
  have HFIN : Hid (Post B w (w4.setCell ⟨c, 1, none⟩ (.slice (some ⟨g, 0, none⟩) (l.length + 1) cap')) c zn (.slice A l.length cap) b (l ++ [(s, t)]) (n + 1)) := by
    have T4 : Tur (Foot c (.slice A l.length cap) (some b)) w (w4.setCell ⟨c, 1, none⟩ (.slice (some ⟨g, 0, none⟩) (l.length + 1) cap')) := by
      refine (HT2.out.then ?_).then (Tur.set _ (.inl (.inl rfl)))
      refine Tur.then (Tur.of_below (w' := (w2.alloc (.cells #[.string s, .int .i64 t] 71)).drew) ((below_alloc (Below.refl _ _) _).drew)) ?_
      exact Tur.of_grown hG4 (fun k e => .inl (.inr (.inl e)))
    refine ⟨_, ⟨_, ⟨HC.out.le, heap_setCell_same _ _ _ _ _ _ K4, ?_, HC.out.mle, ?_⟩, HX.out.append (s, t) HI.out, ?_, Nat.le_trans HB.out T4.size⟩, T4, ?_⟩
    · rw [show (l ++ [((s, t) : Al)]).length = l.length + 1 by simp]
      refine ownsRow_at hown4 (fun k e => ?_)
      cases e
      exact heap_setCell_other w4 ⟨c, 1, none⟩ g _ hgc'
    · refine OwnsM.at HM2.out ?_
      rw [heap_setCell_other w4 ⟨c, 1, none⟩ b _ hne.1, hG4.block b (by simp; omega) (fun e => hne.2 e.symm)]
      exact Below.heap_alloc _ _ _ hbl
    · intro x hx
      rcases List.mem_append.1 hx with hx | hx
      · exact HZ.out x hx
      · rw [List.mem_singleton] at hx; subst hx; exact HS.out
    · rintro k (rfl | hk | hk)
      · exact .inl (.inl rfl)
      · cases hk
        rcases hgc with h | h
        · exact .inl (.inr (.inl h))
        · have := HT2.out.size
          simp at h
          right; show w.heap.size ≤ g; omega
      · exact .inl (.inr (.inr hk))
  have HAPP := hid happ
  clear happ hG4 hgc hown4 K4 A4 hrow hgl4 hgc' hbl
  go_region_law (refine step_append_eq rfl (.tmp 26) (.tmp 28) 58 rfl (v := .slice A l.length cap) (y := .slice (some ⟨w2.heap.size, 0, none⟩) 1 1) (by simp [Act.eval]) (by simp [Act.eval]) HAPP.out ?_)
  all_goals
    go_wp2
    go_end0
    exact ⟨rfl, HFIN.out⟩
end Go.Proofs.Ytkplhobiciddoaa
