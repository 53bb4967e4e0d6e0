/- WorkerFull's walk: at the limit of nodes a new one is refused, old ones register anew, and the whole is what the live ones have. -/
import Derived.Test.YtkplhobiciddoaaWPl
import Derived.Laws.IdiomStrings
namespace Go.Proofs.Ytkplhobiciddoaa
open Go.RowKit Go.Maps
set_option maxRecDepth 20000 in
set_option maxHeartbeats 16000000 in
theorem workerFull_any (n a b c' d : Int) (w : World) (hn : 0 ≤ n ∧ n ≤ 255) :
    Calls Try.prog 7 #[.int .u8 n, .agg #[.int .i64 a, .int .i64 b, .int .i64 c', .int .i64 d]] w fun e w' => e = .returned (.bool true) ∧ Below w.heap.size w w' := by
  obtain ⟨hn0, hn1⟩ := hn
  have HE := eqVt
  go_enter Try.func7, Try.ntmps7
  go_wp2_with fail
  refine (awake_any _).mono ?_
  rintro e w1 ⟨rfl, hb1⟩
  have hs1 := hb1.size
  simp only [World.size_alloc] at hs1
  have Z1 := below_at hb1 (n := w.heap.size) (by first | omega | (simp; done) | (simp; omega)) (by (repeat (first | (with_reducible assumption) | (with_reducible exact alloc_at _ _) | ((with_reducible apply alloc_at'); (simp; done)) | (with_reducible apply alloc_at_lt) | (with_reducible apply heap_drew_at) | (with_reducible apply heap_drewN_at) | (with_reducible apply heap_setCell_same) | ((with_reducible apply heap_set_ne); (first | omega | (dsimp only; omega) | (simp; done) | (simp; omega))) | (with_reducible apply setRow_at) | ((with_reducible apply setRow_ne); (first | omega | (dsimp only; omega) | (simp; done) | (simp; omega))))))
  have B1 : Hid (Below w.heap.size w w1) := Below.trans (by repeat (first | with_reducible assumption | with_reducible exact Below.refl _ _ | with_reducible refine Below.drew ?_ | with_reducible refine below_drewN ?_ _ | with_reducible refine below_alloc ?_ _ | with_reducible refine Below.alloc ?_ (by first | omega | (simp; done) | (simp; omega)) _ | with_reducible refine Below.setCell ?_ (by first | omega | (simp; done) | (simp; omega)) _ | with_reducible refine below_setRow ?_ (by first | omega | (simp; done) | (simp; omega)) _)) (hb1.mono (by first | omega | (simp; done) | (simp; omega)))
  have HZ1 := hid Z1
  have hl1 := hid (lt_of_at Z1)
  clear hb1 Z1 hs1
  go_wp2_with fail
  refine (new_b w1.heap.size w1 (Nat.le_refl _)).mono ?_
  rintro e w2 ⟨rfl, hb2, k2⟩
  have B2 := hid (B1.out.trans (hb2.mono B1.out.size))
  have K2 := hid k2
  have HB2 := hid hb2
  clear hb2 k2
  go_upto_region 5 with fail
  refine wp_name ?_
  intro w3 hw3
  have b3 : Below w2.heap.size w2 w3 := by rw [hw3]; exact (by repeat (first | with_reducible assumption | with_reducible exact Below.refl _ _ | with_reducible refine Below.drew ?_ | with_reducible refine below_drewN ?_ _ | with_reducible refine below_alloc ?_ _ | with_reducible refine Below.alloc ?_ (by first | omega | (simp; done) | (simp; omega)) _ | with_reducible refine Below.setCell ?_ (by first | omega | (simp; done) | (simp; omega)) _ | with_reducible refine below_setRow ?_ (by first | omega | (simp; done) | (simp; omega)) _))
  have X3 : w3.heap[w2.heap.size]? = some (.cells #[.slice none 0 0] 51 (0, 0)) := by rw [hw3]; exact at_of (by apply Exists.intro; refine ⟨?_, ?_⟩; (focus ((repeat (first | (with_reducible assumption) | (with_reducible exact alloc_at _ _) | ((with_reducible apply alloc_at'); (simp; done)) | (with_reducible apply alloc_at_lt) | (with_reducible apply heap_drew_at) | (with_reducible apply heap_drewN_at) | (with_reducible apply heap_setCell_same) | ((with_reducible apply heap_set_ne); (first | omega | (dsimp only; omega) | (simp; done) | (simp; omega))) | (with_reducible apply setRow_at) | ((with_reducible apply setRow_ne); (first | omega | (dsimp only; omega) | (simp; done) | (simp; omega))))))); simp)
  have B3 := hid (B2.out.trans (b3.mono B2.out.size))
  have P3 : Hid (PairW w1.heap.size w3 w1.heap.size w2.heap.size [] []) := ⟨K2.out.below b3, _, refN_start HB2.out.size X3⟩
  have Z : Hid (w.heap.size ≤ w1.heap.size) := B1.out.size
  have BC3 : Hid (Below w1.heap.size w1 w3) := HB2.out.trans (b3.mono HB2.out.size)
  clear hw3 b3 X3
  obtain ⟨c, hc⟩ : ∃ c, c = w1.heap.size := ⟨_, rfl⟩
  obtain ⟨R, hR⟩ : ∃ R, R = w2.heap.size := ⟨_, rfl⟩
  rw [← hR] at P3 ⊢
  rw [← hc] at P3 Z ⊢
  go_upto_region 5 with fail
  obtain ⟨g, hg, hg0, hg1⟩ : ∃ g : Int, g = n % 5 ∧ 0 ≤ g ∧ g ≤ 4 := ⟨_, rfl, Int.emod_nonneg _ (by omega), by have := Int.emod_lt_of_pos n (show (0 : Int) < 5 by omega); omega⟩
  have HCW : Hid (w.heap.size ≤ c) := Z.out
  have hcl : Hid (w.heap.size < c) := by rw [hc]; exact hl1.out
  have HC : Hid (c = w1.heap.size) := hc
  clear hR K2 HB2 hc
  go_wp2
  go_loopw [7] (fun i wr => ∃ k : Nat, k ≤ 14 ∧ i = .int .i64 k ∧ Hid (∃ L, PairW c wr c R L L ∧ Below c w1 wr)) (fun i _ => 14 - (intOf i).toNat)
  case atStart => exact ⟨0, Nat.zero_le _, rfl, _, P3.out, by rw [HC.out]; exact BC3.out⟩
  case round =>
    obtain ⟨k, hk, rfl, hh⟩ := hrel
    obtain ⟨L, PR, BR⟩ := hh.out
    have HP := hid PR
    have Zr := below_at BR hcl.out HZ1.out
    have z0 : wr.cell? ⟨w.heap.size, 0, none⟩ = some (.int .i64 a) := (blk_cell Zr 0).trans rfl
    have z1 : wr.cell? ⟨w.heap.size, 1, none⟩ = some (.int .i64 b) := (blk_cell Zr 1).trans rfl
    have z2 : wr.cell? ⟨w.heap.size, 2, none⟩ = some (.int .i64 c') := (blk_cell Zr 2).trans rfl
    have z3 : wr.cell? ⟨w.heap.size, 3, none⟩ = some (.int .i64 d) := (blk_cell Zr 3).trans rfl
    have zl := lt_of_at Zr
    have HBR := hid BR
    clear Zr hh PR BR
    by_cases hlt : (k : Int) < 10 + g
    · have hk1 : k ≤ 13 := by omega
      have iu : IntKind.u8.wrap (97 + (k : Int)) = 97 + (k : Int) := IntWalk.u8_in _ (by omega)
      have ip : IntKind.i64.wrap ((k : Int) + 1) = (k : Int) + 1 := IntWalk.i64_in _ (by omega)
      have iq : IntKind.i64.wrap (97 + (k : Int)) = 97 + (k : Int) := IntWalk.i64_in _ (by omega)
      obtain ⟨s, hs⟩ : ∃ s : ByteArray, s = ⟨[UInt8.ofNat (97 + k)].toArray⟩ := ⟨_, rfl⟩
      have hss : s.size ≤ 281474976710656 := by rw [hs]; show 1 ≤ _; omega
      have hcv : (convert 47 9 (.slice (some ⟨wr.heap.size, 0, none⟩) 1 1)).run Try.prog (wr.alloc (.cells #[.int .u8 (97 + (k : Int))] 5)) = .ok (.string s) (wr.alloc (.cells #[.int .u8 (97 + (k : Int))] 5)) := by
        rw [hs]
        refine run_convert_bytes_back _ _ _ 5 _ 1 [UInt8.ofNat (97 + k)] Try.underlying47 Try.underlying5 Try.underlying9 (fun j hj => ?_)
        obtain rfl : j = 0 := by simpa using hj
        refine (blk_cell (alloc_at _ _) 0).trans ?_
        have h9 : (UInt8.ofNat (97 + k)).toNat = 97 + k := by rw [UInt8.toNat_ofNat']; omega
        simp only [List.getElem_cons_zero, h9]
        simp
      have HSS := hid hss
      have HK1 : Hid (k + 1 ≤ 14) := by unfold Hid; omega
      clear hs hss hk hk1
      go_upto_region 9 with fail
      refine wp_name ?_
      intro w5 hw5
      have b5 : Below wr.heap.size wr w5 := by rw [hw5]; exact (by repeat (first | with_reducible assumption | with_reducible exact Below.refl _ _ | with_reducible refine Below.drew ?_ | with_reducible refine below_drewN ?_ _ | with_reducible refine below_alloc ?_ _ | with_reducible refine Below.alloc ?_ (by first | omega | (simp; done) | (simp; omega)) _ | with_reducible refine Below.setCell ?_ (by first | omega | (simp; done) | (simp; omega)) _ | with_reducible refine below_setRow ?_ (by first | omega | (simp; done) | (simp; omega)) _))
      have X5 : w5.heap[wr.heap.size + 1]? = some (.cells #[.int .i64 1, .string s, .int .i64 ((k : Int) + 1), .int .i64 k, .int .i64 a, .int .i64 b, .int .i64 c', .int .i64 d] 41 (0, 0)) := by rw [hw5]; exact at_of (by apply Exists.intro; refine ⟨?_, ?_⟩; (focus ((repeat (first | (with_reducible assumption) | (with_reducible exact alloc_at _ _) | ((with_reducible apply alloc_at'); (simp; done)) | (with_reducible apply alloc_at_lt) | (with_reducible apply heap_drew_at) | (with_reducible apply heap_drewN_at) | (with_reducible apply heap_setCell_same) | ((with_reducible apply heap_set_ne); (first | omega | (dsimp only; omega) | (simp; done) | (simp; omega))) | (with_reducible apply setRow_at) | ((with_reducible apply setRow_ne); (first | omega | (dsimp only; omega) | (simp; done) | (simp; omega))))))); simp)
      have P5 := HP.out.below b5
      have B5 : Hid (Below c w1 w5) := HBR.out.trans (b5.mono HP.out.le)
      clear hw5 hcv iu iq b5 z0 z1 z2 z3 zl
      have x0 : w5.cell? ⟨wr.heap.size + 1, 0, none⟩ = some (.int .i64 1) := (blk_cell X5 0).trans rfl
      have x1 : w5.cell? ⟨wr.heap.size + 1, 1, none⟩ = some (.string s) := (blk_cell X5 1).trans rfl
      have x2 : w5.cell? ⟨wr.heap.size + 1, 2, none⟩ = some (.int .i64 ((k : Int) + 1)) := (blk_cell X5 2).trans rfl
      have x3 : w5.cell? ⟨wr.heap.size + 1, 3, none⟩ = some (.int .i64 k) := (blk_cell X5 3).trans rfl
      have x4 : w5.cell? ⟨wr.heap.size + 1, 4, none⟩ = some (.int .i64 a) := (blk_cell X5 4).trans rfl
      have x5 : w5.cell? ⟨wr.heap.size + 1, 5, none⟩ = some (.int .i64 b) := (blk_cell X5 5).trans rfl
      have x6 : w5.cell? ⟨wr.heap.size + 1, 6, none⟩ = some (.int .i64 c') := (blk_cell X5 6).trans rfl
      have x7 : w5.cell? ⟨wr.heap.size + 1, 7, none⟩ = some (.int .i64 d) := (blk_cell X5 7).trans rfl
      have xl := lt_of_at X5
      have HP5 := hid P5
      clear X5 P5
      go_wp2_with fail
      refine (stepW1 c c R L s ((k : Int) + 1) k a b c' d w5 HP5.out HSS.out).mono ?_
      rintro e w6 ⟨rfl, L2, P6, D6⟩
      have B6 : Hid (Below c w1 w6) := B5.out.trans D6
      have HP6 := hid P6
      clear x0 x1 x2 x3 x4 x5 x6 x7 xl P6 D6
      go_wp2_with fail
      refine (whole_b c c L2 w6 HP6.out.tab).mono ?_
      rintro e w7 ⟨rfl, b7⟩
      have HP7 := hid (HP6.out.below b7)
      have B7 : Hid (Below c w1 w7) := B6.out.trans (b7.mono HP6.out.le)
      obtain ⟨vr, N7⟩ := HP7.out.ref
      clear b7
      go_wp2_with fail
      refine (rwhole_any c R vr L2 w7 N7 HP7.out.len).mono ?_
      rintro e w8 ⟨rfl, b8⟩
      have HF : Hid (∃ L, PairW c w8 c R L L ∧ Below c w1 w8) := ⟨_, HP7.out.below b8, B7.out.trans (b8.mono HP7.out.le)⟩
      clear N7 b8
      go_wp2
      go_roundw
      case rel => exact ⟨k + 1, HK1.out, by go_num, HF.out⟩
      case measure => have := HK1.out; simp [intOf]; omega
    · have BW : Hid (Below w.heap.size w wr) := B1.out.trans (HBR.out.mono (by have := hcl.out; omega))
      clear z0 z1 z2 z3 zl hk
      go_wp2_with fail
      refine (stepW1 c c R L ⟨#[97]⟩ 99 20 1 0 0 0 wr HP.out (by show 1 ≤ _; omega)).mono ?_
      rintro e w6 ⟨rfl, L2, P6, D6⟩
      have B6 : Hid (Below w.heap.size w w6) := BW.out.trans (D6.mono HCW.out)
      have HP6 := hid P6
      clear P6 D6
      go_wp2_with fail
      refine (stepW3 c c R L2 ⟨#[]⟩ 0 15 0 0 0 0 w6 HP6.out (by show 0 ≤ _; omega)).mono ?_
      rintro e w7 ⟨rfl, L3, P7, D7⟩
      have B7 : Hid (Below w.heap.size w w7) := B6.out.trans (D7.mono HCW.out)
      have HP7 := hid P7
      clear P7 D7
      go_wp2_with fail
      refine (whole_b c c L3 w7 HP7.out.tab).mono ?_
      rintro e w8 ⟨rfl, b8⟩
      have HP8 := hid (HP7.out.below b8)
      have B8 : Hid (Below w.heap.size w w8) := B7.out.trans (b8.mono B7.out.size)
      obtain ⟨vr, N8⟩ := HP8.out.ref
      clear b8
      go_wp2_with fail
      refine (rwhole_any c R vr L3 w8 N8 HP8.out.len).mono ?_
      rintro e w9 ⟨rfl, b9⟩
      have HP9 := hid (HP8.out.below b9)
      have B9 : Hid (Below w.heap.size w w9) := B8.out.trans (b9.mono B8.out.size)
      clear b9 N8
      go_wp2_with fail
      refine (live_b c c L3 w9 HP9.out.tab).mono ?_
      rintro e w10 ⟨v10, rfl, R10, b10⟩
      have HP10 := hid (HP9.out.below b10)
      have B10 : Hid (Below w.heap.size w w10) := B9.out.trans (b10.mono B9.out.size)
      obtain ⟨vs, N10⟩ := HP10.out.ref
      clear b10
      go_wp2_with fail
      refine (rlive_any c R vs L3 w10 N10 HP10.out.len).mono ?_
      rintro e w11 ⟨v11, rfl, R11, b11⟩
      have R10' := ownsRow_at R10 (fun g hg => b11.block g (R10.lt g hg).2)
      have B11 : Hid (Below w.heap.size w w11) := B10.out.trans (b11.mono B10.out.size)
      have hS := sameN_eq w11 v10 v11 (lives L3) R10' R11 (Nat.le_trans (List.length_filter_le _ _) HP10.out.len)
      clear b11 N10 R10 R10' R11
      go_wp2_with fail
      refine hS.mono ?_
      rintro e w12 ⟨rfl, b12⟩
      have B12 : Hid (Below w.heap.size w w12) := B11.out.trans (b12.mono B11.out.size)
      clear b12 hS
      go_wp2
      go_ret
      exact ⟨rfl, B12.out⟩
end Go.Proofs.Ytkplhobiciddoaa
