/- Contract of chapter 19's Expire: the nodes whose leases are over are live no more, and their names come out rising. -/
import Derived.Test.YtkplhobiciddoaaWkX
import Derived.Deep.DeepCutAuto
import Derived.Deep.CutBlock
namespace Go.Proofs.Ytkplhobiciddoaa
open Go.RowKit Go.Maps Go.WideShapes Go.Sort
/-- Blocks that are no rows of strings stand. -/
def KeptY (w w' : World) : Prop := ∀ (k : Nat) (o : Obj), w.heap[k]? = some o → (∀ cs f, o ≠ .cells cs 9 f) → w'.heap[k]? = some o
theorem KeptY.of_app {w w' : World} {B n : Nat} {v : Value} {xs : List Value} (hr : w.ownsRow B 9 1 v n xs) (hg : w.grownBy w' v.ownBlock) : KeptY w w' := fun k o hk hn => by
  refine (hg.block k (lt_of_at hk) (fun e => ?_)).trans hk
  obtain ⟨-, ⟨rfl, -⟩ | ⟨g, cap, cur, rfl, -, hh, -⟩⟩ := hr
  · cases e
  · injection e with e
    simp only at e
    subst e
    rw [hk] at hh
    cases hh
    exact hn _ _ rfl
theorem Clk.keptY {B c : Nat} {zn v : Value} {m : Option Nat} {l : List Al} {w w' : World} (h : Clk B w c zn v m l) (hk : KeptY w w') (hs : w.heap.size ≤ w'.heap.size) : Clk B w' c zn v m l := by
  refine h.at hs (fun k hf => ?_)
  obtain ⟨I, h1, -⟩ := h.st
  rcases hf with rfl | hf | hf
  · rw [h1.blk]
    exact hk _ _ h1.blk (fun cs f e => by injection e with _ e; exact absurd e (by decide))
  · obtain ⟨-, ⟨rfl, -⟩ | ⟨g, cap, cur, rfl, -, hh, -⟩⟩ := h1.row
    · cases hf
    · injection hf with hf
      simp only at hf
      subst hf
      rw [hh]
      exact hk _ _ hh (fun cs f e => by injection e with _ e; exact absurd e (by decide))
  · subst hf
    obtain ⟨es, cl, hm⟩ := OwnsM.isMap (show OwnsM w Try.prog 9 mkI k l.length I from h1.map)
    rw [hm]
    exact hk _ _ hm (fun cs f e => by cases e)
theorem NodM.keptY {nm : Option Nat} {L : List Nd} {w w' : World} (h : NodM w nm L) (hk : KeptY w w') : NodM w' nm L := by
  refine h.at (fun b e => ?_)
  subst e
  obtain ⟨es, cl, hm⟩ := OwnsM.isMap (show OwnsM w Try.prog 9 ndV b L.length (fnd L) from h)
  rw [hm]
  exact hk _ _ hm (fun cs f e => by cases e)
theorem rowT_keptY {w w' : World} {B n : Nat} {v : Value} {xs : List Value} (h : w.ownsRow B 71 2 v n xs) (hk : KeptY w w') : w'.ownsRow B 71 2 v n xs :=
  ownsRow_at h (fun g hg => by
    obtain ⟨-, ⟨rfl, -⟩ | ⟨g', cap, cur, rfl, -, hh, -⟩⟩ := h
    · cases hg
    · injection hg with hg
      simp only at hg
      subst hg
      rw [hh]
      exact hk _ _ hh (fun cs f e => by injection e with _ e; exact absurd e (by decide)))
theorem KeptX.step {w wr w' : World} {r : Option Nat} (h : KeptX w wr) (hg : wr.grownBy w' r) (hr : ∀ j, r = some j → w.heap.size ≤ j) : KeptX w w' := fun k cs t f hk h1 h2 => by
  have h3 := h k cs t f hk h1 h2
  exact (hg.block k (lt_of_at h3) (fun e => by have := hr k e.symm; have := lt_of_at hk; omega)).trans h3
/-- A row's block is no map's. -/
theorem ownsRow_map {w w' : World} {B n z b : Nat} {v : Value} {t : TypeId} {xs : List Value} (h : w.ownsRow B t z v n xs) (hg : w.grownBy w' (some b)) (hm : ∃ es c, w.heap[b]? = some (.map es c)) : w'.ownsRow B t z v n xs :=
  ownsRow_at h (fun g e => hg.block g (h.lt g e).2 (fun e2 => by
    obtain ⟨es, c, hm⟩ := hm
    cases e2
    obtain ⟨-, ⟨rfl, -⟩ | ⟨g', cap, cur, rfl, -, hh, -⟩⟩ := h
    · cases e
    · injection e with e
      simp only at e
      subst e
      rw [hm] at hh; cases hh))
def namesV (S : List Al) : List Value := S.map (fun a => Value.string a.1)
theorem infoSt : (Try.prog.info? 9).map (fun i => (i.zero, i.size, i.bytes)) = some (some (.string ⟨#[]⟩), 1, 16) := by kernel_rfl
theorem app_str {W : World} {base n : Nat} {v : Value} {xs : List Value} (hown : W.ownsRow base 9 1 v n xs) (hm : n ≤ 1000) (hbase : base ≤ W.heap.size) (s : ByteArray) :
    ∃ v' w', (Builtin.append_ #[42, 42] 42 #[v, .slice (some ⟨W.heap.size, 0, none⟩) 1 1]).run Try.prog (W.alloc (.cells #[.string s] 9)) = .ok v' w' ∧
      w'.ownsRow base 9 1 v' (n + 1) (xs ++ [.string s]) ∧ (W.alloc (.cells #[.string s] 9)).grownBy w' v.ownBlock := by
  obtain ⟨i0, hi, hz0, hz1, hz2⟩ := info_parts infoSt
  obtain ⟨v', w', h1, h2, h3, -⟩ := run_append_own (P := Try.prog) (W.alloc (.cells #[.string s] 9)) base 42 42 9 i0 _ 1 16 Try.underlying42 hi hz0 hz1 hz2 rfl (by omega) v n xs (hown.alloc _)
    ⟨W.heap.size, 0, none⟩ 1 1 [.string s] rfl (World.news_of_block (alloc_at _ _)) (fun u hu => by rw [List.mem_singleton] at hu; subst hu; rfl) (by unfold maxLen; omega) (by omega) (by simp; omega)
  exact ⟨v', w', h1, h2, h3⟩
theorem slice_str {w : World} {B n : Nat} {v : Value} {xs : List Value} (h : w.ownsRow B 9 1 v n xs) : ∃ A cap, v = .slice A n cap := by
  obtain ⟨-, ⟨rfl, h0⟩ | ⟨g, cap, cur, rfl, _⟩⟩ := h
  · exact ⟨none, 0, by rw [h0]⟩
  · exact ⟨_, cap, rfl⟩
/-- Expire under way. -/
structure ExpI (B T : Nat) (w wr : World) (nm : Option Nat) (v : Value) (m : Option Nat) (L : List Nd) (out l1 : List Al) (vo : Value) (k : Nat) (v2 : Value) (M : List Nd) : Prop where
  map : NodM wr nm M
  kd : Kd L M (out.take k)
  clk : Clk B wr T (.map nm) v m l1
  nap : ∀ b, nm = some b → ¬ Foot T v m b
  row : wr.ownsRow w.heap.size 71 2 vo out.length (flatT out)
  out : wr.ownsRow w.heap.size 9 1 v2 k (namesV (out.take k))
  bel : Below B w wr
  kep : KeptX w wr
theorem rowT_at {B n : Nat} {w : World} {v : Value} {l : List Al} (h : w.ownsRow B 71 2 v n (flatT l)) (hn : n = l.length) (h0 : 0 < n) :
    ∃ g cap, v = .slice (some ⟨g, 0, none⟩) n cap ∧ g < w.heap.size ∧ ∀ j, j < l.length → w.cell? ⟨g, j * 2, none⟩ = some (.string (el l j).1) ∧ w.cell? ⟨g, j * 2 + 1, none⟩ = some (.int .i64 (el l j).2) := by
  subst hn
  obtain ⟨-, ⟨-, h4⟩ | ⟨g, cap, cur, rfl, hg, hh, hc, -, hs, ht⟩⟩ := h
  · omega
  · have hcell : ∀ j, j < l.length → ∀ c, c < 2 → w.cell? ⟨g, j * 2 + c, none⟩ = (cellsT (el l j))[c]? := fun j hj c hc9 => by
      rw [blk_cell hh, ← flatT_at l j hj c hc9, ← ht, List.getElem?_take, if_pos (by omega)]
      simp
    exact ⟨g, cap, rfl, lt_of_at hh, fun j hj => ⟨(hcell j hj 0 (by omega)).trans rfl, (hcell j hj 1 (by omega)).trans rfl⟩⟩
set_option maxRecDepth 20000 in
set_option maxHeartbeats 4000000 in
theorem expire_any (B T : Nat) (L : List Nd) (now : Int) (w : World) (h : TabB B w T L) :
    Calls Try.prog 14 #[.pointer (some ⟨T, 0, none⟩), .int .i64 now] w fun e w' => ∃ v, e = .returned v ∧ w'.ownsRow w.heap.size 9 1 v (expO L now).length ((expO L now).map (fun x => Value.string x.name)) ∧ TabB B w' T (expL L now) ∧ Below B w w' ∧ KeptX w w' := by
  obtain ⟨nm, v, m, h⟩ := h
  obtain ⟨l, hc, hk⟩ := h.clk
  have hlt := h.lt
  have hD := due_any (zn := .map nm) B T v m l now w hc
  have HH := hid h
  have HC := hid hc
  have HK := hid hk
  clear h hc hk
  go_enter Try.func14, Try.ntmps14
  go_wp2_with fail
  refine hD.mono ?_
  rintro e w1 ⟨vo, v1, m1, out, l1, rfl, D, R⟩
  have hlen : out.length ≤ 12 := by
    have h1 := HK.out.le HC.out.names.2 HC.out.names.1
    have h2 := HH.out.len
    have h3 := R.len
    omega
  have hBL : Hid (B ≤ w.heap.size) := Nat.le_trans HH.out.le (Nat.le_of_lt hlt)
  have HST : Hid (ExpI B T w w1 nm v1 m1 L out l1 vo 0 (.slice none 0 0) L) := by
    refine ⟨HH.out.map.at (fun b e => ?_), Kd.start HH.out.ris, D.clk, fun b e hf => ?_, D.row, World.ownsRow_nil _ _ _ _, D.tur.below hBL.out (fun k hf => (HC.out.foot hf).1), KeptX.of_tur HC.out D.tur⟩
    · subst e
      exact D.tur.kept b HH.out.map.lt (HH.out.nap b rfl)
    · subst e
      rcases D.foot b hf with h5 | h5
      · exact HH.out.nap b rfl h5
      · have h6 : b < w.heap.size := HH.out.map.lt
        omega
  obtain ⟨A, cap, rfl⟩ := row_slice D.row
  have HR := hid R
  clear hD D R
  go_wp2_with fail
  go_loopw [5, 17] (fun s5 s17 wr => ∃ (k : Nat) (v2 : Value) (M : List Nd), k ≤ out.length ∧ v2 = s5 ∧ s17 = .int .i64 k ∧ Hid (ExpI B T w wr nm v1 m1 L out l1 (.slice A out.length cap) k v2 M)) (fun _ j _ => out.length - (intOf j).toNat)
  case atStart => exact ⟨0, _, L, Nat.zero_le _, rfl, rfl, HST⟩
  case round =>
    obtain ⟨k, v2, M, hkn, rfl, rfl, HI⟩ := hrel
    clear HST
    by_cases hkl : k < out.length
    · obtain ⟨x, hx⟩ : ∃ x, fnd M (ky (el out k).1) = some x := by
        obtain ⟨h3, -⟩ := (HR.out.out_iff (el out k)).1 (el_mem hkl)
        obtain ⟨y, hy, -, e⟩ := (HK.out _).1 h3
        refine ⟨kill (out.take k) y, ?_⟩
        rw [HI.out.kd.f, e, fnd_of_mem HH.out.ris hy]
        rfl
      obtain ⟨b, rfl⟩ : ∃ b, nm = some b := by
        cases nm with
        | none =>
          have : M = [] := HI.out.map
          rw [this] at hx; cases hx
        | some b => exact ⟨b, rfl⟩
      obtain ⟨g, cap', e', hgl, hcell⟩ := rowT_at HI.out.row rfl (by omega)
      cases e'
      obtain ⟨q0, q1⟩ := hcell k hkl
      have hsz : (el out k).1.size ≤ maxLen := by
        have h3 := (HR.out.out_iff (el out k)).1 (el_mem hkl)
        exact HC.out.sz _ h3.1
      obtain ⟨a, ha⟩ : ∃ a, a = el out k := ⟨_, rfl⟩
      have HAPP0 := HI.out.out
      rw [← ha] at hx q0 q1 hsz
      have HTK : Hid (out.take (k + 1) = out.take k ++ [a]) := by
        unfold Hid
        rw [List.take_add_one, List.getElem?_eq_getElem hkl, ha, el_eq hkl]
        rfl
      obtain ⟨s, t⟩ := a
      simp only at hx q0 q1 hsz
      have hn : x.name = s := bytes_inj (mem_of_fnd hx).2
      obtain ⟨nx, ex, ⟨cx0, cx1, cx2, cx3⟩, sx, lx⟩ := x
      simp only at hn
      subst hn
      have HX := hid hx
      have HKL : Hid (k + 1 ≤ out.length) := hkl
      have HM : Hid (out.length - (k + 1) < out.length - k) := by unfold Hid; omega
      have HSZ := hid hsz
      obtain ⟨A2, cap2, rfl⟩ := slice_str HAPP0
      have iwk : IntKind.i64.wrap ((k : Int) + 1) = (k : Int) + 1 := IntWalk.i64_in _ (by omega)
      clear ha hcell hx HAPP0 hsz
      go_upto_region 7 with fail
      refine wp_name ?_
      intro w3 hw3
      have A3 : w3.heap[wr.heap.size]? = some (.cells #[.string nx, .int .i64 t] 71 (0, 0)) := by rw [hw3]; exact (by (repeat (first | (with_reducible assumption) | (with_reducible exact alloc_at _ _) | ((with_reducible apply alloc_at'); (simp; done)) | (with_reducible apply alloc_at_lt) | (with_reducible apply heap_drew_at) | (with_reducible apply heap_drewN_at) | (with_reducible apply heap_setCell_same) | ((with_reducible apply heap_set_ne); (first | omega | (dsimp only; omega) | (simp; done) | (simp; omega))) | (with_reducible apply setRow_at) | ((with_reducible apply setRow_ne); (first | omega | (dsimp only; omega) | (simp; done) | (simp; omega))))))
      have B3 : Below wr.heap.size wr w3 := by rw [hw3]; exact (by repeat (first | with_reducible assumption | with_reducible exact Below.refl _ _ | with_reducible refine Below.drew ?_ | with_reducible refine below_drewN ?_ _ | with_reducible refine below_alloc ?_ _ | with_reducible refine Below.alloc ?_ (by first | omega | (simp; done) | (simp; omega)) _ | with_reducible refine Below.setCell ?_ (by first | omega | (simp; done) | (simp; omega)) _ | with_reducible refine below_setRow ?_ (by first | omega | (simp; done) | (simp; omega)) _))
      have L3 := lt_of_at A3
      clear hw3 q0 q1 hgl
      have C3 := HI.out.clk.below B3
      have N3 : NodM w3 (some b) M := HI.out.map.at (fun b' e => by cases e; exact B3.block b HI.out.map.lt)
      have T3 := C3.lt
      obtain ⟨t3c, t3f⟩ : w3.cell? ⟨T, 0, none⟩ = some (.map (some b)) ∧ ∀ i, w3.frozen? ⟨T, i, none⟩ = false := by
        obtain ⟨I, q, -⟩ := C3.st
        exact ⟨(blk_cell q.blk 0).trans rfl, blk_free q.blk⟩
      have hlk : ∀ W, Below w3.heap.size w3 W → (Instr.lookup 57 (.map (some b)) (.string nx) false).run Try.prog W = .ok (.agg #[.string nx, .int .i64 ex, .int .i64 cx0, .int .i64 cx1, .int .i64 cx2, .int .i64 cx3, .int .i64 sx, .bool lx]) W := fun W hW => by
        have := (N3.at (w' := W) (fun b' e => by cases e; exact hW.block b N3.lt)).look HSZ.out
        rw [HX.out] at this
        exact this
      have hlk0 := hlk w3.drew ((Below.refl _ _).drew)
      have hlk1 : ∀ o, _ := fun o => hlk ((w3.alloc o).drew) ((below_alloc (Below.refl _ _) o).drew)
      have hlk2 : ∀ o, _ := fun o => hlk (w3.drew.alloc o) (below_alloc ((Below.refl _ _).drew) o)
      have a0 : w3.cell? ⟨wr.heap.size, 0, none⟩ = some (.string nx) := (blk_cell A3 0).trans rfl
      have a1 : w3.cell? ⟨wr.heap.size, 1, none⟩ = some (.int .i64 t) := (blk_cell A3 1).trans rfl
      have hl3 := N3.lt
      clear hlk
      go_region
      all_goals
        clear hlk0 hlk1 hlk2
        go_upto_region 9 with fail
        refine wp_name ?_
        intro w5 hw5
        have A5 : w5.heap[wr.heap.size]? = some (.cells #[.string nx, .int .i64 t] 71 (0, 0)) := by rw [hw5]; exact at_of (by apply Exists.intro; refine ⟨?_, ?_⟩; (focus ((repeat (first | (with_reducible assumption) | (with_reducible exact alloc_at _ _) | ((with_reducible apply alloc_at'); (simp; done)) | (with_reducible apply alloc_at_lt) | (with_reducible apply heap_drew_at) | (with_reducible apply heap_drewN_at) | (with_reducible apply heap_setCell_same) | ((with_reducible apply heap_set_ne); (first | omega | (dsimp only; omega) | (simp; done) | (simp; omega))) | (with_reducible apply setRow_at) | ((with_reducible apply setRow_ne); (first | omega | (dsimp only; omega) | (simp; done) | (simp; omega))))))); simp)
        have D5 : w5.heap[w3.heap.size]? = some (.cells #[.string nx, .int .i64 ex, .int .i64 cx0, .int .i64 cx1, .int .i64 cx2, .int .i64 cx3, .int .i64 sx, .bool false] 34 (0, 0)) := by rw [hw5]; exact at_of (by apply Exists.intro; refine ⟨?_, ?_⟩; (focus ((repeat (first | (with_reducible assumption) | (with_reducible exact alloc_at _ _) | ((with_reducible apply alloc_at'); (simp; done)) | (with_reducible apply alloc_at_lt) | (with_reducible apply heap_drew_at) | (with_reducible apply heap_drewN_at) | (with_reducible apply heap_setCell_same) | ((with_reducible apply heap_set_ne); (first | omega | (dsimp only; omega) | (simp; done) | (simp; omega))) | (with_reducible apply setRow_at) | ((with_reducible apply setRow_ne); (first | omega | (dsimp only; omega) | (simp; done) | (simp; omega))))))); simp)
        have B5 : Below wr.heap.size wr w5 := by rw [hw5]; exact Below.trans B3 (Below.mono (by repeat (first | with_reducible exact Below.refl _ _ | with_reducible refine Below.drew ?_ | with_reducible refine below_alloc ?_ _ | with_reducible refine Below.setCell ?_ (by simp) _)) B3.size)
        clear hw5 t3c t3f a0 a1 N3 C3 B3 A3
        have L5 := lt_of_at A5
        have M5 := lt_of_at D5
        have C5 := HI.out.clk.below B5
        have N5 : NodM w5 (some b) M := HI.out.map.at (fun b' e => by cases e; exact B5.block b HI.out.map.lt)
        have T5 := C5.lt
        obtain ⟨t5c, t5f⟩ : w5.cell? ⟨T, 0, none⟩ = some (.map (some b)) ∧ ∀ i, w5.frozen? ⟨T, i, none⟩ = false := by
          obtain ⟨I, q, -⟩ := C5.st
          exact ⟨(blk_cell q.blk 0).trans rfl, blk_free q.blk⟩
        have e0 : ∀ lx_ : Lat w5.heap.size w5, lx_.w.cell? ⟨T, 0, none⟩ = some (.map (some b)) := fun lx_ => by rw [lx_.cell _ _ T5]; exact t5c
        have g0 : ∀ lx_ : Lat w5.heap.size w5, lx_.w.cell? ⟨wr.heap.size, 0, none⟩ = some (.string nx) := fun lx_ => by rw [lx_.cell _ _ L5]; exact (blk_cell A5 0).trans rfl
        have f0 : ∀ lx_ : Lat w5.heap.size w5, lx_.w.cell? ⟨w3.heap.size, 0, none⟩ = some (.string nx) := fun lx_ => by rw [lx_.cell _ _ M5]; exact (blk_cell D5 0).trans rfl
        have f1 : ∀ lx_ : Lat w5.heap.size w5, lx_.w.cell? ⟨w3.heap.size, 1, none⟩ = some (.int .i64 ex) := fun lx_ => by rw [lx_.cell _ _ M5]; exact (blk_cell D5 1).trans rfl
        have f2 : ∀ lx_ : Lat w5.heap.size w5, lx_.w.cell? ⟨w3.heap.size, 2, none⟩ = some (.int .i64 cx0) := fun lx_ => by rw [lx_.cell _ _ M5]; exact (blk_cell D5 2).trans rfl
        have f3 : ∀ lx_ : Lat w5.heap.size w5, lx_.w.cell? ⟨w3.heap.size, 3, none⟩ = some (.int .i64 cx1) := fun lx_ => by rw [lx_.cell _ _ M5]; exact (blk_cell D5 3).trans rfl
        have f4 : ∀ lx_ : Lat w5.heap.size w5, lx_.w.cell? ⟨w3.heap.size, 4, none⟩ = some (.int .i64 cx2) := fun lx_ => by rw [lx_.cell _ _ M5]; exact (blk_cell D5 4).trans rfl
        have f5 : ∀ lx_ : Lat w5.heap.size w5, lx_.w.cell? ⟨w3.heap.size, 5, none⟩ = some (.int .i64 cx3) := fun lx_ => by rw [lx_.cell _ _ M5]; exact (blk_cell D5 5).trans rfl
        have f6 : ∀ lx_ : Lat w5.heap.size w5, lx_.w.cell? ⟨w3.heap.size, 6, none⟩ = some (.int .i64 sx) := fun lx_ => by rw [lx_.cell _ _ M5]; exact (blk_cell D5 6).trans rfl
        have f7 : ∀ lx_ : Lat w5.heap.size w5, lx_.w.cell? ⟨w3.heap.size, 7, none⟩ = some (.bool false) := fun lx_ => by rw [lx_.cell _ _ M5]; exact (blk_cell D5 7).trans rfl
        refine wp_region_lat_tail 7 (by kernel_rfl) (by kernel_rfl) ?_
        simp only [List.take_succ_cons, List.take_zero, List.drop_succ_cons, List.drop_zero]
        repeat (go_big_quiet_step (fail))
        refine wpQuiet_nil ?_
        rintro w6 ⟨x6, hx6⟩
        have hb6 := x6.h
        rw [← hx6] at hb6
        clear hx6 x6 e0 g0 f0 f1 f2 f3 f4 f5 f6 f7
        have B6 : Below wr.heap.size wr w6 := B5.trans (hb6.mono B5.size)
        have A6 := below_at hb6 L5 A5
        have N6 : NodM w6 (some b) M := HI.out.map.at (fun b' e => by cases e; exact B6.block b HI.out.map.lt)
        obtain ⟨w7, hrun, hm7, hg7, hs7⟩ := N6.store HI.out.kd.ris (by rw [HI.out.kd.len]; exact HH.out.len) ⟨nx, ex, (cx0, cx1, cx2, cx3), sx, false⟩ HSZ.out
        simp only [ndV, cellsN] at hrun
        have hmp6 := OwnsM.isMap (show OwnsM w6 Try.prog 9 ndV b M.length (fnd M) from N6)
        have hbB : B ≤ b := HH.out.nle b rfl
        have A7 : w7.heap[wr.heap.size]? = some (.cells #[.string nx, .int .i64 t] 71 (0, 0)) := (hg7.block _ (lt_of_at A6) (fun e => by
          have e2 : wr.heap.size = b := by cases e; rfl
          have := HI.out.map.lt; omega)).trans A6
        have hk1 := HI.out.kd.step (nx, t) (x := ⟨nx, ex, (cx0, cx1, cx2, cx3), sx, lx⟩) HX.out
        rw [← HTK.out] at hk1
        have hBr : B ≤ wr.heap.size := Nat.le_trans hBL.out HI.out.bel.size
        have c7 : Clk B w7 T (.map (some b)) v1 m1 l1 := (HI.out.clk.below B6).at (by omega) (fun k' hk' => hg7.block k' ((HI.out.clk.below B6).foot hk').2 (fun e => HI.out.nap b rfl (by cases e; exact hk')))
        have HI7 : Hid (ExpI B T w w7 (some b) v1 m1 L out l1 (.slice (some ⟨g, 0, none⟩) out.length cap) k (.slice A2 k cap2) M → False) ∨ True := .inr trivial
        have r7 : w7.ownsRow w.heap.size 71 2 (.slice (some ⟨g, 0, none⟩) out.length cap) out.length (flatT out) := ownsRow_map (ownsRow_at HI.out.row (fun g' e => B6.block g' (HI.out.row.lt g' e).2)) hg7 hmp6
        have o7 : w7.ownsRow w.heap.size 9 1 (.slice A2 k cap2) k (namesV (out.take k)) := ownsRow_map (ownsRow_at HI.out.out (fun g' e => B6.block g' (HI.out.out.lt g' e).2)) hg7 hmp6
        have b7 : Below B w w7 := (HI.out.bel.trans (B6.mono hBr)).trans (below_grown hg7 (Nat.le_trans hBr B6.size) (fun j e => by cases e; exact hbB))
        have k7 : KeptX w w7 := (HI.out.kep.trans (KeptX.of_below B6)).trans (KeptX.of_map hg7 hmp6)
        have s7 : w.heap.size ≤ w7.heap.size := b7.size
        have a70 : w7.cell? ⟨wr.heap.size, 0, none⟩ = some (.string nx) := (blk_cell A7 0).trans rfl
        have L7 := lt_of_at A7
        obtain ⟨v8, w8, happ, hown8, hg8⟩ := app_str o7 (by omega) s7 nx
        have HAPP := hid happ
        have y8 : KeptY (w7.alloc (.cells #[.string nx] 9)) w8 := KeptY.of_app (o7.alloc _) hg8
        have b7a : Below w7.heap.size w7 (w7.alloc (.cells #[.string nx] 9)) := below_alloc (Below.refl _ _) _
        have HN : Hid (ExpI B T w w8 (some b) v1 m1 L out l1 (.slice (some ⟨g, 0, none⟩) out.length cap) (k + 1) v8 (putN M ⟨nx, ex, (cx0, cx1, cx2, cx3), sx, false⟩)) := by
          refine ⟨(NodM.at hm7 (fun b' e => by cases e; exact b7a.block b hm7.lt)).keptY y8, hk1, (c7.below b7a).keptY y8 hg8.size, HI.out.nap, rowT_keptY (r7.alloc _) y8, ?_, ?_, ?_⟩
          · rw [HTK.out]
            simpa [namesV] using hown8
          · exact (b7.alloc (Nat.le_trans hBL.out s7) _).grown hg8 (by simp; have := hBL.out; omega) (fun j e => Nat.le_trans hBL.out ((o7.lt j e).1))
          · exact (k7.trans (KeptX.of_below b7a)).step hg8 (fun j e => (o7.lt j e).1)
        clear happ y8 b7a hown8 hg8 k7 b7 o7 r7 c7 hk1 A7 hmp6 hm7 hg7 N6 A6 B6 hb6 N5 C5 t5c t5f D5 A5 B5 HI7
        clear hs7
        go_upto_region 10 with fail
        clear hrun
        go_wp2_with (first | (at_builtin; refine wpList_append_eq rfl _ _ _ rfl rfl rfl HAPP.out ?_))
        go_roundw
        case rel => exact ⟨k + 1, _, _, HKL.out, rfl, by go_num, HN⟩
        case measure => have := HM.out; simp [intOf]; omega
    · obtain rfl : k = out.length := by omega
      have I0 := HI.out
      have hM : M = expL L now := (show Kd L M out by have := I0.kd; rwa [List.take_length] at this).fin HH.out.ris HK.out HR.out
      have hrow := I0.out
      rw [List.take_length] at hrow
      have hnm : namesV out = (out.map (fun a => ky a.1)).map encStr := by
        unfold namesV
        rw [List.map_map]
        rfl
      have hso := names_out HK.out HH.out.ris HR.out HC.out.names.1
      have hln : ((expO L now).map (fun x => ky x.name)).length = out.length := by rw [← hso]; simp
      have fin : ∀ w' : World, wr.grownBy w' v2.ownBlock → TabB B w' T (expL L now) ∧ Below B w w' ∧ KeptX w w' := by
        intro w' hg
        have y := KeptY.of_app hrow hg
        have hmap : NodM w' nm (expL L now) := by rw [← hM]; exact I0.map.keptY y
        refine ⟨⟨nm, v1, m1, ⟨l1, I0.clk.keptY y hg.size, HK.out.expire HR.out⟩, HH.out.nle, I0.nap, hmap, rising_map (exp_name now) HH.out.ris, by unfold expL; rw [List.length_map]; exact HH.out.len, fun x hx => ?_, fun x hx => ?_⟩, ?_, ?_⟩
        · obtain ⟨z, hz, rfl⟩ := List.mem_map.1 hx
          rw [exp_name]; exact HH.out.sz z hz
        · obtain ⟨z, hz, rfl⟩ := List.mem_map.1 hx
          have := HH.out.tm z hz
          split <;> exact this
        · exact I0.bel.grown hg (Nat.le_trans hBL.out I0.bel.size) (fun j e => Nat.le_trans hBL.out (hrow.lt j e).1)
        · exact I0.kep.step hg (fun j e => (hrow.lt j e).1)
      rcases hrow.2 with ⟨rfl, hz⟩ | ⟨gb, cap2, cur, rfl, hbase, hgb, r1, r2, r3, r4⟩
      · obtain rfl : out = [] := List.eq_nil_of_length_eq_zero hz
        have cS := AnyM.slices_Sort_string_none Try.sort26 none 0 wr
        have FIN := hid (fin wr (World.grownBy.refl wr _))
        have hE : expO L now = [] := by
          have : ((expO L now).map (fun x => ky x.name)).length = 0 := hln
          simpa using this
        have HROW : Hid (wr.ownsRow w.heap.size 9 1 (.slice none 0 0) 0 []) := hrow
        clear fin hso hln hnm hrow hM I0
        go_wp2_with fail
        refine Calls.mono cS ?_
        rintro e w' ⟨rfl, rfl⟩
        go_wp2
        go_ret
        refine ⟨_, rfl, ?_, FIN.out⟩
        rw [hE]
        exact HROW.out
      · have hH : Holds encStr wr gb 0 (out.map (fun a => ky a.1)).toArray := holds_of_block hgb (by rw [List.length_map, ← hnm]; simpa using r4)
        have hgl : gb < wr.heap.size := lt_of_at hgb
        have cS := AnyM.slices_Sort_string Try.sort26 gb 0 cap2 (out.map (fun a => ky a.1)) wr hH hgl (by rw [List.length_map]; omega)
        rw [List.length_map] at cS
        rw [hso] at cS
        obtain ⟨Z, hZ⟩ : ∃ Z, Z = (expO L now).map (fun x => ky x.name) := ⟨_, rfl⟩
        rw [← hZ] at cS
        have HZ := hid hZ
        have HLN := hid hln
        have FIN := hid fin
        have HGB := hid hgb
        have HR1 : Hid (out.length ≤ cap2) := r1
        have HR2 := hid r2
        have HR3 := hid r3
        have HBS := hid hbase
        clear fin hso hln hnm hrow hM I0 hH hZ hgb r1 r2 r3 r4 hbase
        go_wp2_with fail
        refine Calls.mono cS ?_
        rintro e w' ⟨rfl, nn, os, rfl⟩
        clear cS
        go_wp2
        go_ret
        refine ⟨_, rfl, ?_, FIN.out _ (grownBy_sorted _)⟩
        have h9 := ownsRow_sorted (w := wr) (base := w.heap.size) (g := gb) (cap := cap2) (n := nn) (e := 9) (os := os) (cur := cur) (ss := Z) (ts := Z) rfl HBS.out HGB.out (by rw [HZ.out, HLN.out]; exact HR1.out) HR2.out HR3.out
        have h8 : Z.length = out.length := by rw [HZ.out]; exact HLN.out
        rw [h8] at h9
        have h7 : (expO L now).length = out.length := by rw [← HLN.out, List.length_map]
        rw [h7]
        have h6 : (expO L now).map (fun x => Value.string x.name) = Z.map encStr := by rw [HZ.out, List.map_map]; rfl
        rw [h6]
        exact h9
end Go.Proofs.Ytkplhobiciddoaa
