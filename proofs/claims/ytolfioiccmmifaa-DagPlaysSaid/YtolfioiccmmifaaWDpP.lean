/- DagPlays' walk. -/
import Derived.Test.YtolfioiccmmifaaDpC
namespace Go.Proofs.Ytolfioiccmmifaa
open Go.RowKit
theorem D3.start {B H H2 : Nat} {w : World} (hg : GrV B w H (fun _ => .slice none 0 0) gr0) (hB : B ≤ H2) (hb : w.heap[H2]? = some (.cells #[.slice none 0 0] 45 (0, 0))) : D3 B w H H2 (fun k => k < B) := by
  have fd : ∀ k, FootD H (fun _ => .slice none 0 0) k → k = H := by
    rintro k (rfl | ⟨i, hi, e⟩)
    · rfl
    · cases e
  have fr : ∀ k, FootR H2 (.slice none 0 0) (fun _ => .slice none 0 0) [] k → k = H2 := by
    rintro k ((rfl | e) | ⟨x, hx, e⟩)
    · rfl
    · cases e
    · cases hx
  refine ⟨_, _, fun _ => .slice none 0 0, _, [], ⟨hg, ⟨hB, hb, World.ownsRow_nil _ _ _ _, (fun _ h => nomatch h)⟩, fun k h1 h2 => ?_, fun k hk => Nat.lt_of_lt_of_le hk (Nat.le_trans hg.hB (Nat.le_of_lt hg.ltH)), fun k hk hf => ?_, fun k hk hf => ?_⟩, ok0, List.Pairwise.nil, fun x => ⟨(fun h => nomatch h), fun h => absurd rfl h⟩⟩
  · exact ne_of_types hg.blk hb (by decide) ((fd k h1).symm.trans (fr k h2))
  · have := fd k hf; have := hg.hB; omega
  · have := fr k hf; omega
theorem kp_below {B : Nat} {w w' : World} (h : Kp (fun k => k < B) w w') (hB : B ≤ w.heap.size) : Below B w w' := Tur.below h hB fun k hk => by omega
set_option maxRecDepth 100000 in
set_option maxHeartbeats 16000000 in
theorem dagPlays_any (A : Option Addr) (n cap : Nat) (l : List OpD) (w : World) (hs : SlO w A n l) (hn : n ≤ maxLen) :
    Calls Try.prog 7 #[.slice A n cap] w fun e w' => e = .returned (.bool true) ∧ Below w.heap.size w w' := by
  have HS := hid hs
  have HFE : Hid (∀ W, Below w.heap.size w W → Calls Try.prog 12 #[.slice A n cap] W fun e w' => e = .returned (.bool (decide (Few n l))) ∧ W = w') := fun W hb => few_any (w := W) (by
    obtain ⟨h1, h2, h3⟩ := hs
    refine ⟨h1, ?_, fun o ho => ⟨(h3 o ho).1.below hb, (h3 o ho).2⟩⟩
    rcases h2 with h2 | ⟨b, off, e, hbl, hc⟩
    · exact .inl h2
    · refine .inr ⟨b, off, e, Nat.lt_of_lt_of_le hbl hb.size, fun k hk => ?_⟩
      rw [hb.cell hbl, hb.cell hbl, hb.cell hbl]
      exact hc k hk) hn
  clear hs hn
  go_enter Try.func7, Try.ntmps7
  go_wp2_with fail
  refine (awake_g w).mono ?_
  rintro e w1 ⟨rfl, hb1⟩
  have B1 := hid hb1
  clear hb1
  go_wp2_with fail
  refine (HFE.out _ B1.out).mono ?_
  rintro e w2 ⟨rfl, rfl⟩
  by_cases hfew : Few n l
  case neg =>
    rw [decide_eq_false hfew]
    clear hfew
    go_wp2_with fail
    refine (awake_g w1).mono ?_
    rintro e w2 ⟨rfl, hb2⟩
    have B2 := B1.out.trans (hb2.mono B1.out.size)
    go_wp2
    go_ret
    exact ⟨rfl, B2⟩
  rw [decide_eq_true hfew]
  have HF := hid hfew
  have hnb : (n : Int) ≤ 150 := by have := hfew.2; omega
  clear hfew
  go_wp2_with fail
  refine (new_g w.heap.size w1 B1.out.size).mono ?_
  rintro e w2 ⟨rfl, hb2, hG2⟩
  have B2 := hid (B1.out.trans (hb2.mono B1.out.size))
  obtain ⟨H, hH⟩ : ∃ H, H = w1.heap.size := ⟨_, rfl⟩
  rw [← hH] at hG2 ⊢
  have HG2 := hid hG2
  clear hb2 hG2 hH B1 HFE w1
  go_upto_region 5 with (fail)
  refine wp_name ?_
  intro w3 hw3
  have b3 : Below w2.heap.size w2 w3 := by rw [hw3]; exact (by repeat (first | with_reducible assumption | with_reducible exact Below.refl _ _ | with_reducible refine Below.drew ?_ | with_reducible refine below_drewN ?_ _ | with_reducible refine below_alloc ?_ _ | with_reducible refine Below.alloc ?_ (by first | omega | (simp; done) | (simp; omega)) _ | with_reducible refine Below.setCell ?_ (by first | omega | (simp; done) | (simp; omega)) _ | with_reducible refine below_setRow ?_ (by first | omega | (simp; done) | (simp; omega)) _))
  have X3 : w3.heap[w2.heap.size]? = some (.cells #[.slice none 0 0] 45 (0, 0)) := by rw [hw3]; exact at_of (by apply Exists.intro; refine ⟨?_, ?_⟩; (focus ((repeat (first | (with_reducible assumption) | (with_reducible exact alloc_at _ _) | ((with_reducible apply alloc_at'); (simp; done)) | (with_reducible apply alloc_at_lt) | (with_reducible apply heap_drew_at) | (with_reducible apply heap_drewN_at) | (with_reducible apply heap_setCell_same) | ((with_reducible apply heap_set_ne); (first | omega | (dsimp only; omega) | (simp; done) | (simp; omega))) | (with_reducible apply setRow_at) | ((with_reducible apply setRow_ne); (first | omega | (dsimp only; omega) | (simp; done) | (simp; omega))))))); simp)
  obtain ⟨H2, hH2⟩ : ∃ H, H = w2.heap.size := ⟨_, rfl⟩
  rw [← hH2] at X3 ⊢
  have HRA : Hid (D3 w.heap.size w3 H H2 (fun k => k < w.heap.size) ∧ Below w.heap.size w w3) := ⟨D3.start (HG2.out.below b3) (by rw [hH2]; exact B2.out.size) X3, B2.out.trans (b3.mono B2.out.size)⟩
  clear hw3 b3 X3 hH2 HG2 B2 w2
  go_wp2_with fail
  go_loopw [5] (fun iv wr => ∃ i : Nat, i ≤ n ∧ iv = .int .i64 i ∧ Hid (D3 w.heap.size wr H H2 (fun k => k < w.heap.size) ∧ Below w.heap.size w wr)) (fun iv _ => n - (intOf iv).toNat)
  case atStart => exact ⟨0, Nat.zero_le _, rfl, HRA⟩
  case round =>
    clear HRA
    obtain ⟨i, hi, rfl, HI⟩ := hrel
    by_cases hin : i < n
    · have HK1 : Hid (i + 1 ≤ n) := hin
      have HMS : Hid (n - (i + 1) < n - i) := by unfold Hid; omega
      have hii : (i : Int) < (n : Int) := by omega
      have hib : (i : Int) ≤ 150 := by omega
      obtain ⟨⟨kd, id, ⟨A2, n2, c2⟩, zs⟩, b, off, hmem, rfl, hbl, hcell, hz, hn2⟩ := HS.out.one hin
      simp only at hcell hz hn2
      obtain ⟨c0, c1, c2'⟩ := hcell wr HI.out.2
      have hbr : b < wr.heap.size := Nat.lt_of_lt_of_le hbl HI.out.2.size
      have hn3 : n2 ≤ 300 := HF.out.1 _ hmem
      have HST := hid (step_any (c := c2) (zs := zs) HI.out.1 kd id (A := A2) (n := n2) (fun W hk => hz.below (HI.out.2.trans (kp_below hk HI.out.2.size))) (by omega))
      have HBW := hid HI.out.2
      clear hcell hz hn2 hmem hin hi hbl HI hn3
      unfold oD at HST
      go_wp2_with fail
      refine HST.out.mono ?_
      rintro e w8 ⟨rfl, hD, hk⟩
      have HREL : Hid (D3 w.heap.size w8 H H2 (fun k => k < w.heap.size) ∧ Below w.heap.size w w8) := ⟨hD, HBW.out.trans (kp_below hk HBW.out.size)⟩
      clear hD hk HST HBW c0 c1 c2' hbr
      go_wp2
      go_roundw
      case rel => exact ⟨i + 1, HK1.out, by go_num, HREL⟩
      case measure => have := HMS.out; simp [intOf]; omega
    · have hii : ¬ (i : Int) < (n : Int) := by omega
      have HRB := hid HI.out
      clear hi hin HI hnb HF HS
      go_wp2_with fail
      go_loopw [6] (fun iv wr => ∃ j : Nat, j ≤ 102 ∧ iv = .int .i64 j ∧ Hid (D3 w.heap.size wr H H2 (fun k => k < w.heap.size) ∧ Below w.heap.size w wr)) (fun iv _ => 102 - (intOf iv).toNat)
      case atStart => exact ⟨0, Nat.zero_le _, rfl, HRB⟩
      case round =>
        clear HRB hii
        obtain ⟨j, hj, rfl, HI⟩ := hrel
        by_cases hjn : j ≤ 101
        · have hjj : (j : Int) ≤ 101 := by omega
          have HJ1 : Hid (j + 1 ≤ 102) := by unfold Hid; omega
          have HMS : Hid (102 - (j + 1) < 102 - j) := by unfold Hid; omega
          obtain ⟨r, hg, hr⟩ := HI.out.1.free (j : Int)
          have HG := hid hg
          have HR := hid hr
          have HBW := hid HI.out.2
          have HDB : Hid (∀ W, Below wr.heap.size wr W → D3 w.heap.size W H H2 (fun k => k < w.heap.size) ∧ Below w.heap.size w W) := fun W hb => ⟨(HI.out.1.below hb).less qx_le, HI.out.2.trans (hb.mono HI.out.2.size)⟩
          have hrr : (r == r) = true := by simp
          clear hg hr hj hjn HI
          go_wp2_with fail
          refine (HG.out _ (Below.refl _ _)).mono ?_
          rintro e w8 ⟨rfl, hb8⟩
          have HB8 := hid hb8
          clear hb8
          go_wp2_with fail
          refine (HR.out _ HB8.out).mono ?_
          rintro e w9 ⟨rfl, hb9⟩
          have HREL := hid (HDB.out w9 (HB8.out.trans (hb9.mono HB8.out.size)))
          clear hb9 HG HR HDB HB8
          cases r
          all_goals
            go_wp2
            go_roundw
            case rel => exact ⟨j + 1, HJ1.out, by go_num, HREL⟩
            case measure => have := HMS.out; simp [intOf]; omega
        · have hjj : ¬ (j : Int) ≤ 101 := by omega
          have HB := hid HI.out.2
          clear hj hjn HI
          go_wp2
          go_ret
          exact ⟨rfl, HB.out⟩
end Go.Proofs.Ytolfioiccmmifaa
