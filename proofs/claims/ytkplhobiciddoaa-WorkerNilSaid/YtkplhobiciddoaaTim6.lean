/- Contract of chapter 10's Pop, as container/heap calls it. -/
import Derived.Test.YtkplhobiciddoaaTim5
namespace Go.Proofs.Ytkplhobiciddoaa
open Go.RowKit
set_option maxRecDepth 20000 in
set_option maxHeartbeats 4000000 in
theorem pop_o {zn : Value} (B c n b : Nat) (v : Value) (l : List Al) (w : World) (h : Good B w c zn v b l n) (hm : l.length ≤ 100000) (h0 : 0 < l.length) :
    Calls Try.prog 106 #[.agg #[.pointer (some ⟨c, 1, none⟩)]] w fun e w' => e = .returned (.iface 71 (.agg #[.string (el l (l.length - 1)).1, .int .i64 (el l (l.length - 1)).2])) ∧ Post B w w' c zn v b (l.take (l.length - 1)) (n - 1) := by
  obtain ⟨I, h1, h2, h3, h4⟩ := h
  obtain ⟨g, cap, rfl, hBg, hgc, hgl, hgf, hcell⟩ := h1.cells h0
  have hlt := h1.lt
  have hcap : l.length ≤ cap := by
    obtain ⟨-, ⟨e, -⟩ | ⟨g', cap', cur, e, -, -, hc, -⟩⟩ := h1.row
    · cases e
    · cases e; exact hc
  obtain ⟨k, hk⟩ : ∃ k, k = l.length - 1 := ⟨_, rfl⟩
  obtain ⟨ck0, ck1⟩ := hcell k (by omega)
  rw [← hk]
  have hs : (el l k).1.size ≤ maxLen := h3 _ (by rw [el_eq (by omega)]; exact List.getElem_mem _)
  have HIK : Hid (I (el l k).1.data.toList = some (k : Int)) := h2.at (by omega)
  have HX' : Hid (Idx (l.take k) (delA I (el l k).1.data.toList)) := by rw [hk]; exact h2.last h0
  obtain ⟨⟨s, t⟩, hx⟩ : ∃ x, x = el l k := ⟨_, rfl⟩
  rw [← hx] at ck0 ck1 HIK HX' hs ⊢
  have HC := hid h1
  have HZ := hid h3
  have HB := hid h4
  have HS := hid hs
  have HK : Hid (k = l.length - 1 ∧ k < l.length ∧ l.length ≤ cap) := by refine ⟨hk, ?_, hcap⟩; omega
  have iw : IntKind.i64.wrap ((l.length : Int) - 1) = (k : Int) := by rw [show (l.length : Int) - 1 = k by omega]; exact IntWalk.i64_in _ (by omega)
  have ik : (k : Int) < (l.length : Int) := by omega
  have ik0 : k < l.length := by omega
  have ikc : (k : Int) ≤ (cap : Int) := by omega
  clear h1 h2 h3 h4 hm hcell hk hs hx hcap
  go_enter Try.func106, Try.ntmps106
  go_upto_region 1 with fail
  refine wp_name ?_
  intro w0 hw0
  have A0 : w0.heap[w.heap.size]? = some (.cells #[.pointer (some ⟨c, 1, none⟩)] 86 (0, 0)) := by rw [hw0]; exact (by (repeat (first | (with_reducible assumption) | (with_reducible exact alloc_at _ _) | ((with_reducible apply alloc_at'); (simp; done)) | (with_reducible apply alloc_at_lt) | (with_reducible apply heap_drew_at) | (with_reducible apply heap_drewN_at) | (with_reducible apply heap_setCell_same) | ((with_reducible apply heap_set_ne); (first | omega | (dsimp only; omega) | (simp; done) | (simp; omega))) | (with_reducible apply setRow_at) | ((with_reducible apply setRow_ne); (first | omega | (dsimp only; omega) | (simp; done) | (simp; omega))))))
  have B0 : Below w.heap.size w w0 := by rw [hw0]; exact (by repeat (first | with_reducible assumption | with_reducible exact Below.refl _ _ | with_reducible refine Below.drew ?_ | with_reducible refine below_drewN ?_ _ | with_reducible refine below_alloc ?_ _ | with_reducible refine Below.alloc ?_ (by first | omega | (simp; done) | (simp; omega)) _ | with_reducible refine Below.setCell ?_ (by first | omega | (simp; done) | (simp; omega)) _ | with_reducible refine below_setRow ?_ (by first | omega | (simp; done) | (simp; omega)) _))
  clear hw0
  have a0 : w0.cell? ⟨w.heap.size, 0, none⟩ = some (.pointer (some ⟨c, 1, none⟩)) := (blk_cell A0 0).trans rfl
  have l0 := lt_of_at A0
  have d0 : w0.cell? ⟨c, 1, none⟩ = some (.slice (some ⟨g, 0, none⟩) l.length cap) := (B0.cell (p := ⟨c, 1, none⟩) hlt).trans HC.out.cell.1
  have di0 : w0.cell? ⟨g, k * 2, none⟩ = some (.string s) := (B0.cell (p := ⟨g, k * 2, none⟩) hgl).trans ck0
  have di1 : w0.cell? ⟨g, k * 2 + 1, none⟩ = some (.int .i64 t) := (B0.cell (p := ⟨g, k * 2 + 1, none⟩) hgl).trans ck1
  have l1 : c < w0.heap.size := by have := B0.size; omega
  have l2 : g < w0.heap.size := by have := B0.size; omega
  clear ck0 ck1 hgf
  go_cut [3] (fun s3 wx => ∃ p : Nat, s3 = .pointer (some ⟨p, 0, none⟩) ∧ Below w0.heap.size w0 wx ∧ w0.heap.size ≤ p ∧ wx.heap[p]? = some (.cells #[.string s, .int .i64 t] 71 (0, 0)))
  case first =>
    go_region_held3 (fun w' => Below w0.heap.size w0 w' ∧ (∀ b o, b < w0.heap.size → w'.cell? ⟨b, o, none⟩ = w0.cell? ⟨b, o, none⟩) ∧ ∀ b o, b < w0.heap.size → w'.frozen? ⟨b, o, none⟩ = w0.frozen? ⟨b, o, none⟩) (first | ((try go_split_ands); (try dsimp only); refine same_of ?_; (repeat (first | with_reducible assumption | with_reducible exact Below.refl _ _ | with_reducible refine Below.drew ?_ | with_reducible refine below_drewN ?_ _ | with_reducible refine below_alloc ?_ _ | with_reducible refine Below.alloc ?_ (by first | omega | (simp; done) | (simp; omega)) _ | with_reducible refine Below.setCell ?_ (by first | omega | (simp; done) | (simp; omega)) _ | with_reducible refine below_setRow ?_ (by first | omega | (simp; done) | (simp; omega)) _)); done) | ((try go_split_ands); (try dsimp only); refine same_of ?_; (repeat (first | with_reducible refine below_call ?_ hb99 | with_reducible assumption | with_reducible exact Below.refl _ _ | with_reducible refine Below.drew ?_ | with_reducible refine below_alloc ?_ _ | with_reducible refine Below.setCell ?_ (by (try have qz_hb99 := hb99.size); (try simp only [World.size_alloc, World.size_setCell, heap_drew] at qz_hb99); (try (obtain ⟨qy_hb99, -, -⟩ : Below _ _ w99 ∧ _ ∧ _ := by assumption; have qx_hb99 := qy_hb99.size)); first | omega | (dsimp only; omega)) _)); done)) (fail)
    all_goals
      obtain ⟨hb98, -, -⟩ : Below w0.heap.size w0 _ ∧ _ ∧ _ := by assumption
      go_wp2_with fail
      go_meet
      exact ⟨_, rfl, (by repeat (first | with_reducible assumption | with_reducible exact Below.refl _ _ | with_reducible refine Below.drew ?_ | with_reducible refine below_drewN ?_ _ | with_reducible refine below_alloc ?_ _ | with_reducible refine Below.alloc ?_ (by first | omega | (simp; done) | (simp; omega)) _ | with_reducible refine Below.setCell ?_ (by first | omega | (simp; done) | (simp; omega)) _ | with_reducible refine below_setRow ?_ (by first | omega | (simp; done) | (simp; omega)) _)), by first | exact Nat.le_refl _ | (simp; done) | (simp; omega), at_of (by apply Exists.intro; refine ⟨?_, ?_⟩; (focus ((repeat (first | (with_reducible assumption) | (with_reducible exact alloc_at _ _) | ((with_reducible apply alloc_at'); (simp; done)) | (with_reducible apply alloc_at_lt) | (with_reducible apply heap_drew_at) | (with_reducible apply heap_drewN_at) | (with_reducible apply heap_setCell_same) | ((with_reducible apply heap_set_ne); (first | omega | (dsimp only; omega) | (simp; done) | (simp; omega))) | (with_reducible apply setRow_at) | ((with_reducible apply setRow_ne); (first | omega | (dsimp only; omega) | (simp; done) | (simp; omega))))))); simp)⟩
  case rest =>
    obtain ⟨p, rfl, hb1, hpl, X1⟩ := hcut
    obtain ⟨w1, rfl⟩ : ∃ wx_ : World, wx_ = wc := ⟨_, rfl⟩
    have B1 := B0.trans (hb1.mono B0.size)
    have C1 := HC.out.below B1
    have A1 := below_at hb1 l0 A0
    have m0 := lt_of_at A1
    have mc := C1.lt
    have mp := lt_of_at X1
    have hcp : c ≠ p := by omega
    have hAp : w.heap.size ≠ p := by omega
    have hAc : w.heap.size ≠ c := by omega
    have a1 : w1.cell? ⟨w.heap.size, 0, none⟩ = some (.pointer (some ⟨c, 1, none⟩)) := (blk_cell A1 0).trans rfl
    have d1 := C1.cell.1
    have e0 : ∀ lx_ : Lat w1.heap.size w1, lx_.w.cell? ⟨w.heap.size, 0, none⟩ = some (.pointer (some ⟨c, 1, none⟩)) := fun lx_ => by rw [lx_.cell _ _ m0]; exact a1
    have e1 : ∀ lx_ : Lat w1.heap.size w1, lx_.w.cell? ⟨c, 1, none⟩ = some (.slice (some ⟨g, 0, none⟩) l.length cap) := fun lx_ => by rw [lx_.cell _ _ mc]; exact d1
    have HB1 := hid B1
    have HA1 := hid A1
    have HX1 := hid X1
    clear a0 d0 di0 di1 C1 A0 B0 hb1 A1 X1 B1 a1 d1
    go_upto_region 2 with fail
    refine wp_region_lat_tail 15 (by kernel_rfl) (by kernel_rfl) ?_
    simp only [List.take_succ_cons, List.take_zero, List.drop_succ_cons, List.drop_zero]
    repeat (go_big_quiet_step (fail))
    refine wpQuiet_nil ?_
    clear e0 e1
    rintro w2 ⟨x2, hx2⟩
    have hb2 := x2.h
    rw [← hx2] at hb2
    clear hx2 x2
    have B2 := HB1.out.trans (hb2.mono HB1.out.size)
    have C2 := HC.out.below B2
    have A2 := below_at hb2 m0 HA1.out
    have X2 := below_at hb2 mp HX1.out
    obtain ⟨c0, c1, cf⟩ := C2.cell
    have n0 := lt_of_at A2
    have nc := C2.lt
    have np := lt_of_at X2
    have HB2 := hid B2
    have HC2 := hid C2
    have HA2 := hid A2
    have HX2 := hid X2
    clear B2 C2 A2 X2 hb2
    go_upto_region 3 with fail
    refine wp_name ?_
    intro w3 hw3
    have HW3 : Hid (w3 = w2.setCell ⟨c, 1, none⟩ (.slice (some ⟨g, 0, none⟩) k cap)) := hw3
    have A3 : w3.heap[w.heap.size]? = some (.cells #[.pointer (some ⟨c, 1, none⟩)] 86 (0, 0)) := by rw [hw3]; exact heap_set_ne hAc HA2.out
    have X3 : w3.heap[p]? = some (.cells #[.string s, .int .i64 t] 71 (0, 0)) := by rw [hw3]; exact heap_set_ne (Ne.symm hcp) HX2.out
    have K3 : w3.heap[c]? = some (.cells #[zn, .slice (some ⟨g, 0, none⟩) k cap, .map (some b)] 63 (0, 0)) := by rw [hw3]; exact heap_setCell_same _ _ _ _ _ _ HC2.out.blk
    clear hw3 c0 c1 cf n0 nc np
    have a3 : w3.cell? ⟨w.heap.size, 0, none⟩ = some (.pointer (some ⟨c, 1, none⟩)) := (blk_cell A3 0).trans rfl
    have c3 : w3.cell? ⟨c, 2, none⟩ = some (.map (some b)) := (blk_cell K3 2).trans rfl
    have x3 : w3.cell? ⟨p, 0, none⟩ = some (.string s) := (blk_cell X3 0).trans rfl
    have n0 := lt_of_at A3
    have nc := lt_of_at K3
    have np := lt_of_at X3
    have e0 : ∀ lx_ : Lat w3.heap.size w3, lx_.w.cell? ⟨w.heap.size, 0, none⟩ = some (.pointer (some ⟨c, 1, none⟩)) := fun lx_ => by rw [lx_.cell _ _ n0]; exact a3
    have e1 : ∀ lx_ : Lat w3.heap.size w3, lx_.w.cell? ⟨c, 2, none⟩ = some (.map (some b)) := fun lx_ => by rw [lx_.cell _ _ nc]; exact c3
    have e2 : ∀ lx_ : Lat w3.heap.size w3, lx_.w.cell? ⟨p, 0, none⟩ = some (.string s) := fun lx_ => by rw [lx_.cell _ _ np]; exact x3
    have HX3 := hid X3
    have HK3 := hid K3
    clear A3 X3 K3 a3 c3 x3
    refine wp_region_lat_tail 7 (by kernel_rfl) (by kernel_rfl) ?_
    simp only [List.take_succ_cons, List.take_zero, List.drop_succ_cons, List.drop_zero]
    repeat (go_big_quiet_step (fail))
    refine wpQuiet_nil ?_
    clear e0 e1 e2
    rintro w4 ⟨x4, hx4⟩
    have hb4 := x4.h
    rw [← hx4] at hb4
    clear hx4 x4
    have hne := HC.out.map_ne b rfl
    have hgb : g ≠ b := fun e => hne.2 (by rw [← e]; rfl)
    have M2 : OwnsM w2 Try.prog 9 mkI b n I := HC2.out.map
    have hb2 : b < w2.heap.size := M2.lt
    have hw3s : w3.heap.size = w2.heap.size := by rw [HW3.out]; simp
    have M4 : OwnsM w4 Try.prog 9 mkI b n I := OwnsM.at M2 (by rw [hb4.block b (by omega), HW3.out]; exact heap_setCell_other w2 ⟨c, 1, none⟩ b _ hne.1)
    obtain ⟨w5, hdel, M5, G5, z5⟩ := M4.drop (t := 59) (e := 3) Try.underlying9 Try.underlying59 HS.out 0
    rw [HIK.out] at M5
    simp only [Option.isSome_some, if_true] at M5
    have X4 : w4.heap[p]? = some (.cells #[.string s, .int .i64 t] 71 (0, 0)) := below_at hb4 np HX3.out
    have hpb : p ≠ b := fun e => by
      have := HC.out.map.lt
      omega
    have lp4 := lt_of_at X4
    have X5 : w5.heap[p]? = some (.cells #[.string s, .int .i64 t] 71 (0, 0)) := (G5.block _ lp4 (fun e => hpb (by cases e; rfl))).trans X4
    have x50 : w5.cell? ⟨p, 0, none⟩ = some (.string s) := (blk_cell X5 0).trans rfl
    have x51 : w5.cell? ⟨p, 1, none⟩ = some (.int .i64 t) := (blk_cell X5 1).trans rfl
    have T4 : Tur (Foot c (.slice (some ⟨g, 0, none⟩) l.length cap) (some b)) w w4 := by
      refine ((Tur.of_below HB2.out).then ?_).then (Tur.of_below hb4)
      rw [HW3.out]
      exact Tur.set _ (.inl (.inl rfl))
    have T5 : Tur (Foot c (.slice (some ⟨g, 0, none⟩) l.length cap) (some b)) w w5 := T4.then (Tur.of_grown G5 (fun k e => by cases e; exact .inl (.inr (.inr rfl))))
    have hgw : g < w2.heap.size := by have := HB2.out.size; omega
    have HFIN : Hid (Post B w w5 c zn (.slice (some ⟨g, 0, none⟩) l.length cap) b (l.take k) (n - 1)) := by
      refine ⟨.slice (some ⟨g, 0, none⟩) k cap, ⟨_, ⟨HC.out.le, ?_, ?_, HC.out.mle, M5⟩, HX'.out, fun x hx => HZ.out x (List.mem_of_mem_take hx), Nat.le_trans HB.out T5.size⟩, T5, ?_⟩
      · rw [G5.block c (by have := hb4.size; omega) (fun e => hne.1 (by cases e; rfl)), hb4.block c nc]
        exact HK3.out
      · have hlen : (l.take k).length = k := by simp; omega
        rw [hlen, ← flatT_take]
        obtain ⟨h3, ⟨e, -⟩ | ⟨g', cap', cur, e, h5, hh, h6, h7, h8, h9⟩⟩ := HC2.out.row
        · cases e
        · cases e
          refine ⟨by rw [List.length_take, flatT_length]; omega, .inr ⟨g, cap, cur, rfl, h5, ?_, by omega, h7, h8, by rw [← h9, List.take_take]; congr 1; omega⟩⟩
          rw [G5.block g (by have := hb4.size; omega) (fun e => hgb (by cases e; rfl)), hb4.block g (by omega), HW3.out, heap_setCell_other w2 ⟨c, 1, none⟩ g _ hgc]
          exact hh
      · rintro k' (rfl | hk | hk)
        · exact .inl (.inl rfl)
        · cases hk; exact .inl (.inr (.inl rfl))
        · exact .inl (.inr (.inr hk))
    clear X4 X5 M2 M4 M5 G5 T4 T5 hb4 hw3s z5 hb2
    go_wp2
    go_ret
    exact ⟨rfl, HFIN.out⟩
end Go.Proofs.Ytkplhobiciddoaa
