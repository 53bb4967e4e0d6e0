/- LedgerFull of chapter 13: the walk. -/
import Derived.Test.YtobgolceggeogaaLedF
import Derived.Laws.BytesArg
namespace Go.Proofs.Ytobgolceggeogaa
open Go.RowKit
theorem KeptC.at {w w' : World} {L k : Nat} {cs : Array Value} {ty : TypeId} {f : Nat × Nat} (h : KeptC w w' L) (hn : k ≠ L) (hk : w.heap[k]? = some (.cells cs ty f)) : w'.heap[k]? = some (.cells cs ty f) := h _ _ _ _ hn hk
theorem alloc_at0 (W : World) (x y : Obj) : ((W.alloc x).alloc y).heap[W.heap.size]? = some x := alloc_at_lt (alloc_at W x) y
theorem alloc_at1 (W : World) (x y : Obj) : ((W.alloc x).alloc y).heap[W.heap.size + 1]? = some y := by
  have h := alloc_at (W.alloc x) y
  rw [World.size_alloc] at h
  exact h
theorem conv_two (W : World) (x y : Int) : (convert 40 9 (.slice (some ⟨W.heap.size, 0, none⟩) 2 2)).run Try.prog (W.alloc (.cells #[.int .u8 x, .int .u8 y] 5 (0, 0))) = .ok (.string (strOfNums [x, y])) (W.alloc (.cells #[.int .u8 x, .int .u8 y] 5 (0, 0))) := by
  refine run_convert_bytes_arg _ 40 5 Try.underlying40 Try.underlying5 W.heap.size 0 2 2 [x, y] rfl ?_ 9 Try.underlying9
  intro i hi
  rw [Nat.zero_add, blk_cell (alloc_at W _)]
  match i, hi with
  | 0, _ => rfl
  | 1, _ => rfl
theorem two_size (x y : Int) : (strOfNums [x, y]).size ≤ maxLen := by
  have : (strOfNums [x, y]).size = 2 := rfl
  unfold maxLen; omega
theorem keep_box {B g : Nat} {w1 w' : World} {a b c d : Int} {t : TypeId} (hv : w1.heap[g]? = some (.cells #[.int .i64 a, .int .i64 b, .int .i64 c, .int .i64 d] t (0, 0))) (hg : g < B) (h : Below B w1 w') :
    Below B w1 w' ∧ w'.cell? ⟨g, 0, none⟩ = some (.int .i64 a) ∧ w'.cell? ⟨g, 1, none⟩ = some (.int .i64 b) ∧ w'.cell? ⟨g, 2, none⟩ = some (.int .i64 c) ∧ w'.cell? ⟨g, 3, none⟩ = some (.int .i64 d) := by
  obtain ⟨h0, h1, h2, h3, -⟩ := four (below_at h hg hv)
  exact ⟨h, h0, h1, h2, h3⟩
set_option maxRecDepth 20000 in
set_option maxHeartbeats 4000000 in
theorem ledgerFull_any (m : Nat) (a b c d : Int) (w : World) (hm : m ≤ 255) :
    Calls Try.prog 4 #[.int .u8 m, .agg #[.int .i64 a, .int .i64 b, .int .i64 c, .int .i64 d]] w fun e w' => e = .returned (.bool true) ∧ Below w.heap.size w w' := by
  go_enter Try.func4, Try.ntmps4
  go_wp2_with fail
  refine (awake_any _).mono ?_
  rintro e w1 ⟨rfl, hb1⟩
  have hs1 := hb1.size
  try simp only [World.size_alloc, World.size_setCell] at hs1
  have V_1 : w1.heap[w.heap.size]? = some (.cells #[.int .i64 a, .int .i64 b, .int .i64 c, .int .i64 d] 29 (0, 0)) := below_at hb1 (by first | omega | (simp; done) | (simp; omega)) (by (repeat (first | (with_reducible assumption) | (with_reducible exact alloc_at _ _) | ((with_reducible apply alloc_at'); (simp; done)) | (with_reducible apply alloc_at_lt) | (with_reducible apply heap_drew_at) | (with_reducible apply heap_drewN_at) | (with_reducible apply heap_setCell_same) | ((with_reducible apply heap_set_ne); (first | omega | (dsimp only; omega) | (simp; done) | (simp; omega))) | (with_reducible apply setRow_at) | ((with_reducible apply setRow_ne); (first | omega | (dsimp only; omega) | (simp; done) | (simp; omega))))))
  have B1 : Below w.heap.size w w1 := Below.trans (by repeat (first | with_reducible assumption | with_reducible exact Below.refl _ _ | with_reducible refine Below.drew ?_ | with_reducible refine below_drewN ?_ _ | with_reducible refine below_alloc ?_ _ | with_reducible refine Below.alloc ?_ (by first | omega | (simp; done) | (simp; omega)) _ | with_reducible refine Below.setCell ?_ (by first | omega | (simp; done) | (simp; omega)) _ | with_reducible refine below_setRow ?_ (by first | omega | (simp; done) | (simp; omega)) _)) (hb1.mono (by first | omega | (simp; done) | (simp; omega)))
  clear hb1
  go_wp2_with fail
  refine (new_b w1.heap.size w1 (Nat.le_refl _)).mono ?_
  rintro e w2 ⟨rfl, hb2, hL2⟩
  have hs2 := hb2.size
  have HL2 := hid hL2
  have hL1 : w1.heap.size < w2.heap.size := hL2.lt
  clear hL2
  go_wp2
  have HR3 : Hid (RefB w1.heap.size (w2.alloc (.cells #[.slice none 0 0] 39 (0, 0))) w2.heap.size 0 noA) := ⟨.slice none 0 0, [], ⟨hs2, alloc_at _ _, by simp [flatA], .inl ⟨rfl, rfl⟩⟩, Row.nil⟩
  have HL3 : Hid (LedB w1.heap.size (w2.alloc (.cells #[.slice none 0 0] 39 (0, 0))) w1.heap.size 0 noA) := HL2.out.below (by repeat (first | with_reducible assumption | with_reducible exact Below.refl _ _ | with_reducible refine Below.drew ?_ | with_reducible refine below_drewN ?_ _ | with_reducible refine below_alloc ?_ _ | with_reducible refine Below.alloc ?_ (by first | omega | (simp; done) | (simp; omega)) _ | with_reducible refine Below.setCell ?_ (by first | omega | (simp; done) | (simp; omega)) _ | with_reducible refine below_setRow ?_ (by first | omega | (simp; done) | (simp; omega)) _))
  have B3 : Below w1.heap.size w1 (w2.alloc (.cells #[.slice none 0 0] 39 (0, 0))) := below_alloc hb2 _
  have hs3 := B3.size
  generalize hw3 : w2.alloc (.cells #[.slice none 0 0] 39 (0, 0)) = w3 at HR3 HL3 B3 hs3 ⊢
  have hR1 : w2.heap.size < w3.heap.size := by rw [← hw3, World.size_alloc]; omega
  obtain ⟨R, hRr⟩ : ∃ R, R = w2.heap.size := ⟨_, rfl⟩
  rw [← hRr] at HR3 hR1 ⊢
  have hRs : w1.heap.size ≤ R := by omega
  clear hw3 hRr HL2 hb2 hL1
  clear hs2 w2
  go_loopw [7] (fun i wr => ∃ (k n : Nat) (A : Acc), k ≤ 60 + m % 8 ∧ i = .int .i64 k ∧ Hid (LedB w1.heap.size wr w1.heap.size n A) ∧ Hid (RefB w1.heap.size wr R n A) ∧ Below w1.heap.size w1 wr) (fun i _ => 60 + m % 8 - (intOf i).toNat)
  case atStart => exact ⟨0, 0, noA, Nat.zero_le _, rfl, HL3, HR3, B3⟩
  case round =>
    clear HL3 HR3 B3 hs3 hR1
    obtain ⟨k, n, A, hk, rfl, hL, hR, hbel⟩ := hrel
    have hsr := hbel.size
    have V_r := below_at hbel (by omega) V_1
    have hcv := conv_two wr
    by_cases hkl : k < 60 + m % 8
    · go_upto_region 9 with fail
      have hsz := two_size (97 + k % 26) (97 + k / 26)
      generalize strOfNums [97 + (k : Int) % 26, 97 + (k : Int) / 26] = s at hsz ⊢
      have HL4 : Hid (LedB w1.heap.size (wr.alloc (.cells #[.int .u8 (97 + (k : Int) % 26), .int .u8 (97 + (k : Int) / 26)] 5 (0, 0))) w1.heap.size n A) := hL.out.below (below_alloc (Below.refl _ _) _)
      have HR4 : Hid (RefB w1.heap.size (wr.alloc (.cells #[.int .u8 (97 + (k : Int) % 26), .int .u8 (97 + (k : Int) / 26)] 5 (0, 0))) R n A) := hR.out.below (below_alloc (Below.refl _ _) _)
      have B4 : Below w1.heap.size w1 (wr.alloc (.cells #[.int .u8 (97 + (k : Int) % 26), .int .u8 (97 + (k : Int) / 26)] 5 (0, 0))) := below_alloc hbel _
      generalize wr.alloc (.cells #[.int .u8 (97 + (k : Int) % 26), .int .u8 (97 + (k : Int) / 26)] 5 (0, 0)) = w4 at HL4 HR4 B4 ⊢
      have hs4 := B4.size
      have kb := keep_box (w' := w4) V_1 (by omega) B4
      obtain ⟨-, Vc0, Vc1, Vc2, Vc3⟩ := kb
      have hL4z := HL4.out.lt
      have hn64 := HL4.out.1
      have hOp : ∀ W, Below w4.heap.size w4 W → Calls Try.prog 11 #[.pointer (some ⟨w1.heap.size, 0, none⟩), .string s, .agg #[.int .i64 a, .int .i64 b, .int .i64 c, .int .i64 d]] W fun e w' => e = .returned (.int .i64 (openE A n s.data.toList (a, b, c, d))) ∧ LedB w1.heap.size w' w1.heap.size (openN A n s.data.toList (a, b, c, d)) (openA A n s.data.toList (a, b, c, d)) ∧ Below w1.heap.size W w' ∧ KeptC W w' w1.heap.size := fun W h => open_b w1.heap.size w1.heap.size n A s a b c d W (Nat.le_trans hs4 h.size) (HL4.out.below h) hsz
      have hRo : ∀ W, w1.heap.size ≤ W.heap.size → RefB w1.heap.size W R n A → Calls Try.prog 14 #[.pointer (some ⟨R, 0, none⟩), .string s, .agg #[.int .i64 a, .int .i64 b, .int .i64 c, .int .i64 d]] W fun e w' => e = .returned (.int .i64 (openE A n s.data.toList (a, b, c, d))) ∧ RefB w1.heap.size w' R (openN A n s.data.toList (a, b, c, d)) (openA A n s.data.toList (a, b, c, d)) ∧ Below w1.heap.size W w' ∧ KeptT W w' := fun W h1 h2 => ropen_b w1.heap.size R n A s a b c d W h1 h2 hn64
      have hn1 := openN_le (A := A) (k := s.data.toList) (v := (a, b, c, d)) hn64
      have hi1 := HL4.out.2.1.open_ n s.data.toList (a, b, c, d)
      generalize openE A n s.data.toList (a, b, c, d) = e1 at hOp hRo
      generalize openN A n s.data.toList (a, b, c, d) = n1 at hOp hRo hn1
      generalize openA A n s.data.toList (a, b, c, d) = A1 at hOp hRo hi1
      have hTk : ∀ W g, w1.heap.size ≤ W.heap.size → LedB w1.heap.size W w1.heap.size n1 A1 → W.heap[g]? = some (.cells #[.string s, .int .i64 a, .int .i64 b, .int .i64 c, .int .i64 d] 31 (0, 0)) → Calls Try.prog 12 #[.pointer (some ⟨w1.heap.size, 0, none⟩), .slice (some ⟨g, 0, none⟩) 1 1] W fun e w' => e = .returned (.int .i64 (takeE A1 [(s, a, b, c, d)])) ∧ LedB w1.heap.size w' w1.heap.size n1 (takeR A1 [(s, a, b, c, d)]) ∧ Below w1.heap.size W w' ∧ KeptC W w' w1.heap.size := fun W g h1 h2 h3 => take_b w1.heap.size w1.heap.size n1 A1 (some ⟨g, 0, none⟩) 1 1 [(s, a, b, c, d)] W h1 h2 (by unfold maxLen; simp) (holdsE_one hsz h3)
      have hRt : ∀ W g cap, w1.heap.size ≤ W.heap.size → RefB w1.heap.size W R n1 A1 → W.heap[g]? = some (.cells #[.string s, .int .i64 a, .int .i64 b, .int .i64 c, .int .i64 d] 42 (0, 0)) → Calls Try.prog 15 #[.pointer (some ⟨R, 0, none⟩), .slice (some ⟨g, 0, none⟩) 1 cap] W fun e w' => e = .returned (.int .i64 (takeE A1 [(s, a, b, c, d)])) ∧ RefB w1.heap.size w' R n1 (takeR A1 [(s, a, b, c, d)]) ∧ Below w1.heap.size W w' ∧ KeptT W w' := fun W g cap h1 h2 h3 => rtake_b w1.heap.size R n1 A1 s a b c d g cap W h1 h2 hn1 hi1 h3
      generalize takeE A1 [(s, a, b, c, d)] = e2 at hTk hRt
      generalize takeR A1 [(s, a, b, c, d)] = A2 at hTk hRt
      have Vlt : w.heap.size < w1.heap.size := by omega
      have HH : Hid (k + 1 ≤ 60 + m % 8) := hkl
      have HM : Hid (60 + m % 8 - (k + 1) < 60 + m % 8 - k) := by unfold Hid; omega
      clear hcv hn64 hn1 hi1 hL hR hbel hk V_r hsr
      go_region_held3 (fun w' => Below w1.heap.size w1 w' ∧ w'.cell? ⟨w.heap.size, 0, none⟩ = some (.int .i64 a) ∧ w'.cell? ⟨w.heap.size, 1, none⟩ = some (.int .i64 b) ∧ w'.cell? ⟨w.heap.size, 2, none⟩ = some (.int .i64 c) ∧ w'.cell? ⟨w.heap.size, 3, none⟩ = some (.int .i64 d)) (((try go_split_ands); (try dsimp only); refine keep_box V_1 Vlt (by repeat (first | with_reducible assumption | with_reducible exact Below.refl _ _ | with_reducible refine Below.drew ?_ | with_reducible refine below_alloc ?_ _)))) (first | (go_at_call 11; refine (hOp _ (by repeat (first | with_reducible assumption | with_reducible exact Below.refl _ _ | with_reducible refine Below.drew ?_ | with_reducible refine below_alloc ?_ _))).mono ?_; rintro e w91 ⟨rfl, hL91, hB91, hK91⟩; have hR91 : RefB w1.heap.size w91 R n A := (HR4.out.below (by repeat (first | with_reducible assumption | with_reducible exact Below.refl _ _ | with_reducible refine Below.drew ?_ | with_reducible refine below_alloc ?_ _))).keptC (HL4.out.below (by repeat (first | with_reducible assumption | with_reducible exact Below.refl _ _ | with_reducible refine Below.drew ?_ | with_reducible refine below_alloc ?_ _))) hK91; have hBB91 : Below w1.heap.size w1 w91 := Below.trans (by repeat (first | with_reducible assumption | with_reducible exact Below.refl _ _ | with_reducible refine Below.drew ?_ | with_reducible refine below_alloc ?_ _)) hB91) | (go_at_call 14; refine (hRo _ (Below.size (B := w1.heap.size) (w := w1) (by repeat (first | with_reducible assumption | with_reducible exact Below.refl _ _ | with_reducible refine Below.drew ?_ | with_reducible refine below_alloc ?_ _))) hR91).mono ?_; rintro e w92 ⟨rfl, hR92, hB92, hT92⟩; have hL92 := hL91.keptT hT92; have hBB92 : Below w1.heap.size w1 w92 := Below.trans (by repeat (first | with_reducible assumption | with_reducible exact Below.refl _ _ | with_reducible refine Below.drew ?_ | with_reducible refine below_alloc ?_ _)) hB92; have hn0 := Nat.ne_of_gt hL92.lt; have hn1 := Nat.ne_of_gt (Nat.lt_succ_of_lt hL92.lt)) | (go_at_call 12; refine Calls.mono (hTk _ _ ?_ ?_ ?_) ?_; (focus exact (Below.size (B := w1.heap.size) (w := w1) (by repeat (first | with_reducible assumption | with_reducible exact Below.refl _ _ | with_reducible refine Below.drew ?_ | with_reducible refine below_alloc ?_ _)))); (focus exact hL92.below (by repeat (first | with_reducible assumption | with_reducible exact Below.refl _ _ | with_reducible refine Below.drew ?_ | with_reducible refine below_alloc ?_ _))); (focus first | with_reducible exact alloc_at _ _ | with_reducible exact alloc_at0 _ _ _ | with_reducible exact alloc_at1 _ _ _); rintro e w93 ⟨rfl, hL93, hB93, hK93⟩; have hR93 : RefB w1.heap.size w93 R n1 A1 := (hR92.below (by repeat (first | with_reducible assumption | with_reducible exact Below.refl _ _ | with_reducible refine Below.drew ?_ | with_reducible refine below_alloc ?_ _))).keptC (hL92.below (by repeat (first | with_reducible assumption | with_reducible exact Below.refl _ _ | with_reducible refine Below.drew ?_ | with_reducible refine below_alloc ?_ _))) hK93; have hBB93 : Below w1.heap.size w1 w93 := Below.trans (by repeat (first | with_reducible assumption | with_reducible exact Below.refl _ _ | with_reducible refine Below.drew ?_ | with_reducible refine below_alloc ?_ _)) hB93) | (go_at_call 15; refine Calls.mono (hRt _ _ _ ?_ ?_ ?_) ?_; (focus exact (Below.size (B := w1.heap.size) (w := w1) (by repeat (first | with_reducible assumption | with_reducible exact Below.refl _ _ | with_reducible refine Below.drew ?_ | with_reducible refine below_alloc ?_ _)))); (focus exact hR93.below (by repeat (first | with_reducible assumption | with_reducible exact Below.refl _ _ | with_reducible refine Below.drew ?_ | with_reducible refine below_alloc ?_ _))); (focus first | with_reducible exact alloc_at _ _ | with_reducible exact hK93.at hn0 (alloc_at0 _ _ _) | with_reducible exact hK93.at hn1 (alloc_at1 _ _ _)); rintro e w94 ⟨rfl, hR94, hB94, hT94⟩; have hL94 := (hL93.below (by repeat (first | with_reducible assumption | with_reducible exact Below.refl _ _ | with_reducible refine Below.drew ?_ | with_reducible refine below_alloc ?_ _))).keptT hT94; have hBB94 : Below w1.heap.size w1 w94 := Below.trans (by repeat (first | with_reducible assumption | with_reducible exact Below.refl _ _ | with_reducible refine Below.drew ?_ | with_reducible refine below_alloc ?_ _)) hB94))
      all_goals
        have HLn := hid hL94
        have HRn := hid hR94
        clear hL94 hR94 hL93 hR93 hL92 hR92 hL91 hR91 hB91 hB92 hB93 hB94 hK91 hK93 hT92 hT94 hOp hRo hTk hRt
        go_wp2
        go_roundw
        case rel => exact ⟨k + 1, n1, A2, HH.out, by go_num, HLn, HRn, hBB94⟩
        case measure =>
          have := HM.out
          simp [intOf]
          omega
    · obtain rfl : k = 60 + m % 8 := by omega
      have hn64 := hL.out.1
      have haa : (⟨#[97, 97]⟩ : ByteArray).size ≤ maxLen := by show 2 ≤ maxLen; unfold maxLen; omega
      have hOp := open_b w1.heap.size w1.heap.size n A ⟨#[97, 97]⟩ 0 0 0 0 wr hsr hL.out haa
      have hRo : ∀ W, w1.heap.size ≤ W.heap.size → RefB w1.heap.size W R n A → _ := fun W h1 h2 => ropen_b w1.heap.size R n A ⟨#[97, 97]⟩ 0 0 0 0 W h1 h2 hn64
      have hn1 := openN_le (A := A) (k := (⟨#[97, 97]⟩ : ByteArray).data.toList) (v := (0, 0, 0, 0)) hn64
      have hi1 := hL.out.2.1.open_ n (⟨#[97, 97]⟩ : ByteArray).data.toList (0, 0, 0, 0)
      generalize openE A n (⟨#[97, 97]⟩ : ByteArray).data.toList (0, 0, 0, 0) = e1 at hOp hRo
      generalize openN A n (⟨#[97, 97]⟩ : ByteArray).data.toList (0, 0, 0, 0) = n1 at hOp hRo hn1
      generalize openA A n (⟨#[97, 97]⟩ : ByteArray).data.toList (0, 0, 0, 0) = A1 at hOp hRo hi1
      have hle : ¬ ((60 + m % 8 : Nat) : Int) < 60 + (m : Int) % 8 := by omega
      have HLr := hid hL
      have HRr := hid hR
      clear hkl hk hcv V_r hL hR
      go_wp2_with fail
      refine hOp.mono ?_
      rintro e w4 ⟨rfl, hL4, hB4, hK4⟩
      have hR4 : RefB w1.heap.size w4 R n A := HRr.out.out.keptC HLr.out.out hK4
      have hBB4 : Below w1.heap.size w1 w4 := hbel.trans hB4
      have HL4 := hid hL4
      clear hOp hL4 hK4 hB4
      go_wp2_with fail
      refine (hRo _ hBB4.size hR4).mono ?_
      rintro e w5 ⟨rfl, hR5, hB5, hT5⟩
      have hL5 := HL4.out.keptT hT5
      have hBB5 : Below w1.heap.size w1 w5 := hBB4.trans hB5
      have hTk : ∀ W g, w1.heap.size ≤ W.heap.size → LedB w1.heap.size W w1.heap.size n1 A1 → W.heap[g]? = some (.cells #[.string ⟨#[97, 97]⟩, .int .i64 0, .int .i64 0, .int .i64 0, .int .i64 0] 31 (0, 0)) → Calls Try.prog 12 #[.pointer (some ⟨w1.heap.size, 0, none⟩), .slice (some ⟨g, 0, none⟩) 1 1] W fun e w' => e = .returned (.int .i64 (takeE A1 [((⟨#[97, 97]⟩ : ByteArray), (0 : Int), (0 : Int), (0 : Int), (0 : Int))])) ∧ LedB w1.heap.size w' w1.heap.size n1 (takeR A1 [((⟨#[97, 97]⟩ : ByteArray), (0 : Int), (0 : Int), (0 : Int), (0 : Int))]) ∧ Below w1.heap.size W w' ∧ KeptC W w' w1.heap.size := fun W g h1 h2 h3 => take_b w1.heap.size w1.heap.size n1 A1 (some ⟨g, 0, none⟩) 1 1 [((⟨#[97, 97]⟩ : ByteArray), (0 : Int), (0 : Int), (0 : Int), (0 : Int))] W h1 h2 (by unfold maxLen; simp) (holdsE_one haa h3)
      have hRt : ∀ W g cap, w1.heap.size ≤ W.heap.size → RefB w1.heap.size W R n1 A1 → W.heap[g]? = some (.cells #[.string ⟨#[97, 97]⟩, .int .i64 0, .int .i64 0, .int .i64 0, .int .i64 0] 42 (0, 0)) → Calls Try.prog 15 #[.pointer (some ⟨R, 0, none⟩), .slice (some ⟨g, 0, none⟩) 1 cap] W fun e w' => e = .returned (.int .i64 (takeE A1 [((⟨#[97, 97]⟩ : ByteArray), (0 : Int), (0 : Int), (0 : Int), (0 : Int))])) ∧ RefB w1.heap.size w' R n1 (takeR A1 [((⟨#[97, 97]⟩ : ByteArray), (0 : Int), (0 : Int), (0 : Int), (0 : Int))]) ∧ Below w1.heap.size W w' ∧ KeptT W w' := fun W g cap h1 h2 h3 => rtake_b w1.heap.size R n1 A1 ⟨#[97, 97]⟩ 0 0 0 0 g cap W h1 h2 hn1 hi1 h3
      generalize takeE A1 [((⟨#[97, 97]⟩ : ByteArray), (0 : Int), (0 : Int), (0 : Int), (0 : Int))] = e2 at hTk hRt
      generalize takeR A1 [((⟨#[97, 97]⟩ : ByteArray), (0 : Int), (0 : Int), (0 : Int), (0 : Int))] = A2 at hTk hRt
      have HRo := hid hRo
      clear hRo hB5 hT5 hi1 hR4 hn64 HL4
      go_wp2_with fail
      refine Calls.mono (hTk _ _ ?_ ?_ ?_) ?_
      · exact (Below.size (B := w1.heap.size) (w := w1) (by repeat (first | with_reducible assumption | with_reducible exact Below.refl _ _ | with_reducible refine Below.drew ?_ | with_reducible refine below_alloc ?_ _)))
      · exact hL5.below (by repeat (first | with_reducible assumption | with_reducible exact Below.refl _ _ | with_reducible refine Below.drew ?_ | with_reducible refine below_alloc ?_ _))
      · exact alloc_at _ _
      rintro e w6 ⟨rfl, hL6, hB6, hK6⟩
      have hR6 : RefB w1.heap.size w6 R n1 A1 := (hR5.below (by repeat (first | with_reducible assumption | with_reducible exact Below.refl _ _ | with_reducible refine Below.drew ?_ | with_reducible refine below_alloc ?_ _))).keptC (hL5.below (by repeat (first | with_reducible assumption | with_reducible exact Below.refl _ _ | with_reducible refine Below.drew ?_ | with_reducible refine below_alloc ?_ _))) hK6
      have hBB6 : Below w1.heap.size w1 w6 := Below.trans (by repeat (first | with_reducible assumption | with_reducible exact Below.refl _ _ | with_reducible refine Below.drew ?_ | with_reducible refine below_alloc ?_ _)) hB6
      clear hB6 hK6 hL5 hR5 hTk
      go_wp2_with fail
      refine Calls.mono (hRt _ _ _ ?_ ?_ ?_) ?_
      · exact (Below.size (B := w1.heap.size) (w := w1) (by repeat (first | with_reducible assumption | with_reducible exact Below.refl _ _ | with_reducible refine Below.drew ?_ | with_reducible refine below_alloc ?_ _)))
      · exact hR6.below (by repeat (first | with_reducible assumption | with_reducible exact Below.refl _ _ | with_reducible refine Below.drew ?_ | with_reducible refine below_alloc ?_ _))
      · exact alloc_at _ _
      rintro e w7 ⟨rfl, hR7, hB7, hT7⟩
      have hL7 := (hL6.below (by repeat (first | with_reducible exact Below.refl _ _ | with_reducible refine below_alloc ?_ _))).keptT hT7
      have hBB7 : Below w1.heap.size w1 w7 := Below.trans (by repeat (first | with_reducible assumption | with_reducible exact Below.refl _ _ | with_reducible refine Below.drew ?_ | with_reducible refine below_alloc ?_ _)) hB7
      clear hB7 hT7 hL6 hR6 hRt
      have hCl := close_b w1.heap.size w1.heap.size n1 A2 ⟨#[97, 97]⟩ w7 hBB7.size hL7 haa
      have hRc : ∀ W, w1.heap.size ≤ W.heap.size → RefB w1.heap.size W R n1 A2 → _ := fun W h1 h2 => rclose_b w1.heap.size R n1 A2 ⟨#[97, 97]⟩ W h1 h2 hn1
      generalize closeE A2 (⟨#[97, 97]⟩ : ByteArray).data.toList = e3 at hCl hRc
      generalize closeN A2 n1 (⟨#[97, 97]⟩ : ByteArray).data.toList = n3 at hCl hRc
      generalize closeA A2 (⟨#[97, 97]⟩ : ByteArray).data.toList = A3 at hCl hRc
      go_wp2_with fail
      refine hCl.mono ?_
      rintro e w8 ⟨rfl, hL8, hB8, hK8⟩
      have hR8 := hR7.keptC hL7 hK8
      have hBB8 : Below w1.heap.size w1 w8 := hBB7.trans hB8
      clear hCl hL7 hR7 hB8 hK8
      go_wp2_with fail
      refine (hRc _ hBB8.size hR8).mono ?_
      rintro e w9 ⟨rfl, hR9, hB9, hT9⟩
      have hL9 := hL8.keptT hT9
      have hBB9 : Below w1.heap.size w1 w9 := hBB8.trans hB9
      clear hRc hL8 hR8 hB9 hT9
      have hn3 := hL9.1
      have hi3 := hL9.2.1
      have hLe : ∀ W, Below w9.heap.size w9 W → _ := fun W h => left_b w1.heap.size w1.heap.size n3 A3 ⟨#[97, 97]⟩ W (hL9.below h) haa
      have hLr : ∀ W, Below w9.heap.size w9 W → _ := fun W h => rleft_b w1.heap.size R n3 A3 ⟨#[97, 97]⟩ W (hR9.below h) hn3 hi3
      generalize leftOf A3 (⟨#[97, 97]⟩ : ByteArray).data.toList = x3 at hLe hLr
      obtain ⟨x30, x31, x32, x33⟩ := x3
      generalize (if (A3 (⟨#[97, 97]⟩ : ByteArray).data.toList).isSome = true then (0 : Int) else 3) = e4 at hLe hLr
      simp only [vv] at hLe hLr
      have hs9 := hBB9.size
      clear hL9 hR9 hn3 hi3
      go_wp2_with fail
      refine (hLe _ (by repeat (first | with_reducible assumption | with_reducible exact Below.refl _ _ | with_reducible refine Below.drew ?_ | with_reducible refine below_alloc ?_ _))).mono ?_
      rintro e w10 ⟨rfl, hb10⟩
      have hs10 := hb10.size
      clear hLe
      go_wp2_with fail
      refine (hLr _ (by repeat (first | with_reducible assumption | with_reducible exact Below.refl _ _ | with_reducible refine Below.drew ?_ | with_reducible refine below_alloc ?_ _))).mono ?_
      rintro e w11 ⟨rfl, hb11⟩
      have hs11 := hb11.size
      simp only [World.size_alloc] at hs11
      have X11 : w11.heap[w10.heap.size]? = some (.cells #[.int .i64 x30, .int .i64 x31, .int .i64 x32, .int .i64 x33] 29 (0, 0)) := below_at hb11 (by rw [World.size_alloc]; omega) (alloc_at _ _)
      obtain ⟨xc0, xc1, xc2, xc3, xcf⟩ := four X11
      have hb910 : Below w9.heap.size w9 w11 := Below.trans (by repeat (first | with_reducible assumption | with_reducible exact Below.refl _ _ | with_reducible refine Below.drew ?_ | with_reducible refine below_alloc ?_ _)) (hb11.mono (by rw [World.size_alloc]; omega))
      have BF : Below w.heap.size w w11 := B1.trans ((hBB9.trans (hb910.mono hs9)).mono (by omega))
      have hl10 : w10.heap.size < w11.heap.size := by omega
      clear hLr hb11 hb910 X11 hb10
      go_wp2
      go_ret
      exact ⟨by first | rfl | simp, (by repeat (first | with_reducible assumption | with_reducible exact Below.refl _ _ | with_reducible refine Below.drew ?_ | with_reducible refine below_drewN ?_ _ | with_reducible refine below_alloc ?_ _ | with_reducible refine Below.alloc ?_ (by first | omega | (simp; done) | (simp; omega)) _ | with_reducible refine Below.setCell ?_ (by first | omega | (simp; done) | (simp; omega)) _ | with_reducible refine below_setRow ?_ (by first | omega | (simp; done) | (simp; omega)) _))⟩
end Go.Proofs.Ytobgolceggeogaa
