/- Contracts of the reference's find, take, Get, Cancel, Next of chapter 10. -/
import Derived.Test.YtacffoobeebleaaTimK
namespace Go.Proofs.Ytacffoobeebleaa
open Go.RowKit
/-- The reference's clock at block R. -/
structure RefK (B : Nat) (w : World) (R : Nat) (v : Value) (l : List Al) : Prop where
  le : B ≤ R
  blk : w.heap[R]? = some (.cells #[v] 46 (0, 0))
  row : RowO B w v l
  bs : B ≤ w.heap.size
def FootR (R : Nat) (v : Value) (k : Nat) : Prop := k = R ∨ v.ownBlock = some k
section
variable {B R : Nat} {w w' : World} {v : Value} {l : List Al}
theorem RefK.lt (h : RefK B w R v l) : R < w.heap.size := lt_of_at h.blk
theorem RefK.foot (h : RefK B w R v l) {k : Nat} (hk : FootR R v k) : B ≤ k ∧ k < w.heap.size := by
  rcases hk with rfl | hk
  · exact ⟨h.le, h.lt⟩
  · exact h.row.lt k hk
theorem RefK.at (h : RefK B w R v l) (hs : B ≤ w'.heap.size) (e : ∀ k, FootR R v k → w'.heap[k]? = w.heap[k]?) : RefK B w' R v l :=
  ⟨h.le, (e R (.inl rfl)).trans h.blk, h.row.at (fun g hg => e g (.inr hg)), hs⟩
theorem RefK.below (h : RefK B w R v l) (hb : Below w.heap.size w w') : RefK B w' R v l := h.at (Nat.le_trans h.bs hb.size) (fun k hk => hb.block k (h.foot hk).2)
theorem RefK.tur {F : Nat → Prop} (h : RefK B w R v l) (t : Tur F w w') (hd : ∀ k, FootR R v k → ¬ F k) : RefK B w' R v l := h.at (Nat.le_trans h.bs t.size) (fun k hk => t.kept k (h.foot hk).2 (hd k hk))
theorem RefK.own_ne (h : RefK B w R v l) : v.ownBlock ≠ some R := by
  intro e
  rcases h.row with ⟨rfl, -⟩ | ⟨g, o, cap, cur, rfl, -, h2, -⟩
  · cases e
  · injection e with e
    simp only at e
    rw [e, h.blk] at h2
    injection h2 with h2
    injection h2 with _ h5
    exact absurd h5 (by decide)
theorem RefK.cell (h : RefK B w R v l) : w.cell? ⟨R, 0, none⟩ = some v ∧ ∀ i, w.frozen? ⟨R, i, none⟩ = false := ⟨(blk_cell h.blk 0).trans rfl, blk_free h.blk⟩
end
/-- What a call of the reference leaves. -/
def RPost (B : Nat) (w w' : World) (R : Nat) (v : Value) (Q : List Al → Prop) : Prop := ∃ v' l', RefK B w' R v' l' ∧ Q l' ∧ Tur (FootR R v) w w' ∧ ∀ k, FootR R v' k → FootR R v k ∨ w.heap.size ≤ k
theorem RPost.same {B R : Nat} {w w' : World} {v : Value} {l : List Al} {Q : List Al → Prop} (h : RefK B w R v l) (hb : Below w.heap.size w w') (hQ : Q l) : RPost B w w' R v Q := ⟨v, l, h.below hb, hQ, Tur.of_below hb, fun _ h => .inl h⟩
/-- The row is laid anew. -/
theorem RefK.store {B R : Nat} {w w' : World} {v v' : Value} {l l' : List Al} (h : RefK B w R v l) (t : Tur (FootR R v) w w') (hR : w'.heap[R]? = some (.cells #[v] 46 (0, 0))) (r : RowO B w' v' l') (hne : v'.ownBlock ≠ some R) :
    RefK B (w'.setCell ⟨R, 0, none⟩ v') R v' l' ∧ Tur (FootR R v) w (w'.setCell ⟨R, 0, none⟩ v') :=
  ⟨⟨h.le, heap_setCell_same _ _ _ _ _ _ hR, r.at (fun g hg => heap_setCell_other w' ⟨R, 0, none⟩ g v' (fun e => hne (by rw [hg, e]))), by have := h.bs; have := t.size; simp; omega⟩, t.then (Tur.set v' (.inl (.inl rfl)))⟩
theorem app_om {B m : Nat} {W : World} {v : Value} {l l' : List Al} {c : Nat} (hm' : m = l'.length) (hB : B ≤ W.heap.size) (h : RowO B W v l) (hm : l.length + l'.length ≤ 100000) (ty : TypeId) (ad : Addr) (had : ∀ j u, (flatT l')[j]? = some u → W.cell? (ad.add j) = some u) :
    ∃ v' w', (Builtin.append_ #[44, 44] ty #[v, .slice (some ad) m c]).run Try.prog W = .ok v' w' ∧ RowO B w' v' (l ++ l') ∧ W.grownBy w' v.ownBlock ∧ (v'.ownBlock = v.ownBlock ∨ v'.ownBlock = some W.heap.size) := by
  subst hm'; exact app_o hB h hm ty ad had
/-- The first of a name. -/
theorem least_name {l : List Al} {s : ByteArray} (h : hasN l s = true) : ∃ k, k < l.length ∧ (el l k).1 = s ∧ ∀ j, j < k → (el l j).1 ≠ s := by
  obtain ⟨i, hi, e⟩ := (hasN_iff l s).1 h
  induction i using Nat.strongRecOn with
  | _ i ih =>
    by_cases h1 : ∃ j, j < i ∧ (el l j).1 = s
    · obtain ⟨j, hj, ej⟩ := h1
      exact ih j hj (by omega) ej
    · exact ⟨i, hi, e, fun j hj ej => h1 ⟨j, hj, ej⟩⟩
set_option maxHeartbeats 2000000 in
theorem rfind_old (B R : Nat) (v : Value) (l : List Al) (s : ByteArray) (k : Nat) (w : World) (h : RefK B w R v l) (hm : l.length ≤ 100000) (hk : k < l.length) (e : (el l k).1 = s) (hn : ∀ j, j < k → (el l j).1 ≠ s) :
    Calls Try.prog 31 #[.pointer (some ⟨R, 0, none⟩), .string s] w fun e w' => e = .returned (.int .i64 k) ∧ Below w.heap.size w w' := by
  obtain ⟨r0, -⟩ := h.cell
  obtain ⟨g, o, cap, rfl, -, -, hgl, -, hcell⟩ := h.row.cells (by omega)
  have hlR := h.lt
  have HC := hid hcell
  have HN := hid hn
  have HE := hid e
  have HK : Hid (k < l.length) := hk
  have hm' : l.length ≤ 9223372036854775807 := by omega
  clear h hcell hn e hk hm
  go_enter Try.func31, Try.ntmps31
  go_wp2
  go_loopw [5] (fun i wr => ∃ j : Nat, j ≤ k ∧ i = .int .i64 j ∧ Hid (Below w.heap.size w wr)) (fun i _ => k - (intOf i).toNat)
  case atStart => exact ⟨0, Nat.zero_le _, rfl, Below.refl _ _⟩
  case round =>
    obtain ⟨j, hj, rfl, hbel⟩ := hrel
    have hb := hbel.out
    have hsr := hb.size
    have hjl : j < l.length := by have := HK.out; omega
    have r0r : wr.cell? ⟨R, 0, none⟩ = some (.slice (some ⟨g, o, none⟩) l.length cap) := (hb.cell (p := ⟨R, 0, none⟩) hlR).trans r0
    have c0 : wr.cell? ⟨g, o + j * 2, none⟩ = some (.string (el l j).1) := (hb.cell (p := ⟨g, o + j * 2, none⟩) hgl).trans (HC.out j hjl).1
    have hji : (j : Int) < l.length := by omega
    obtain ⟨x, hx⟩ : ∃ x, x = (el l j).1 := ⟨_, rfl⟩
    rw [← hx] at c0
    have HX := hid hx
    clear hx hb
    by_cases hjk : j = k
    · subst hjk
      have hxs : x = s := HX.out.trans HE.out
      subst hxs
      go_wp2
      go_ret
      exact ⟨rfl, hbel.out⟩
    · have hE := str_ne (show ¬ x = s from fun e => HN.out j (by omega) (by rw [← HX.out]; exact e))
      have HJ : Hid (j + 1 ≤ k) := by unfold Hid; omega
      have iw : IntKind.i64.wrap ((j : Int) + 1) = (j : Int) + 1 := IntWalk.i64_in _ (by omega)
      clear hjk hj
      go_wp2
      go_roundw
      case rel => exact ⟨j + 1, HJ.out, by go_num, hbel.out⟩
      case measure => have := HJ.out; simp [intOf]; omega
set_option maxHeartbeats 2000000 in
theorem rfind_none (B R : Nat) (v : Value) (l : List Al) (s : ByteArray) (w : World) (h : RefK B w R v l) (hm : l.length ≤ 100000) (hn : hasN l s = false) :
    Calls Try.prog 31 #[.pointer (some ⟨R, 0, none⟩), .string s] w fun e w' => e = .returned (.int .i64 (-1)) ∧ Below w.heap.size w w' := by
  obtain ⟨r0, -⟩ := h.cell
  obtain ⟨A, cap, rfl⟩ := h.row.slice
  have hlR := h.lt
  have HR := hid h.row
  have HN := hid hn
  have hm' : l.length ≤ 9223372036854775807 := by omega
  clear h hn hm
  go_enter Try.func31, Try.ntmps31
  go_wp2
  go_loopw [5] (fun i wr => ∃ j : Nat, j ≤ l.length ∧ i = .int .i64 j ∧ Hid (Below w.heap.size w wr)) (fun i _ => l.length - (intOf i).toNat)
  case atStart => exact ⟨0, Nat.zero_le _, rfl, Below.refl _ _⟩
  case round =>
    obtain ⟨j, hj, rfl, hbel⟩ := hrel
    have hb := hbel.out
    have hsr := hb.size
    have r0r : wr.cell? ⟨R, 0, none⟩ = some (.slice A l.length cap) := (hb.cell (p := ⟨R, 0, none⟩) hlR).trans r0
    by_cases hjl : j < l.length
    · obtain ⟨g, o, cap', hv, -, -, hgl, -, hcell⟩ := HR.out.cells (by omega)
      cases hv
      have c0 : wr.cell? ⟨g, o + j * 2, none⟩ = some (.string (el l j).1) := (hb.cell (p := ⟨g, o + j * 2, none⟩) hgl).trans (hcell j hjl).1
      have hji : (j : Int) < l.length := by omega
      have hE := str_ne (show ¬ (el l j).1 = s from fun e => by have := (hasN_iff l s).2 ⟨j, hjl, e⟩; rw [HN.out] at this; cases this)
      have HJ : Hid (j + 1 ≤ l.length) := hjl
      have iw : IntKind.i64.wrap ((j : Int) + 1) = (j : Int) + 1 := IntWalk.i64_in _ (by omega)
      generalize (el l j).1 = x at c0 hE
      clear hb hj hjl hcell
      go_wp2
      go_roundw
      case rel => exact ⟨j + 1, HJ.out, by go_num, hbel.out⟩
      case measure => have := HJ.out; simp [intOf]; omega
    · obtain rfl : j = l.length := by omega
      clear hb hj hjl
      go_wp2
      go_ret
      exact ⟨rfl, hbel.out⟩
set_option maxHeartbeats 1000000 in
theorem rget_old (B R : Nat) (v : Value) (l : List Al) (s : ByteArray) (k : Nat) (w : World) (h : RefK B w R v l) (hm : l.length ≤ 100000) (hk : k < l.length) (e : (el l k).1 = s) (hn : ∀ j, j < k → (el l j).1 ≠ s) :
    Calls Try.prog 26 #[.pointer (some ⟨R, 0, none⟩), .string s] w fun e w' => e = .returned (.tuple #[.int .i64 (el l k).2, .int .i64 0]) ∧ Below w.heap.size w w' := by
  have HH := hid h
  have HK : Hid (k < l.length) := hk
  have HF := fun W => rfind_old B R v l s k W
  have HF' : Hid (∀ W, RefK B W R v l → _) := fun W hW => HF W hW hm hk e hn
  clear h hm hk e hn HF
  go_enter Try.func26, Try.ntmps26
  go_wp2_with fail
  refine (HF'.out w HH.out).mono ?_
  rintro e w1 ⟨rfl, hb1⟩
  have h1 := HH.out.below hb1
  obtain ⟨r0, -⟩ := h1.cell
  obtain ⟨g, o, cap, rfl, -, -, hgl, -, hcell⟩ := h1.row.cells (by have := HK.out; omega)
  obtain ⟨-, c1⟩ := hcell k HK.out
  have hlR := h1.lt
  have hki : (k : Int) < l.length := by have := HK.out; omega
  have hk0 : ¬ (k : Int) < 0 := by omega
  have HB1 := hid hb1
  clear h1 hcell hb1
  go_wp2
  go_ret2
  exact ⟨rfl, HB1.out⟩
set_option maxHeartbeats 1000000 in
theorem rget_none (B R : Nat) (v : Value) (l : List Al) (s : ByteArray) (w : World) (h : RefK B w R v l) (hm : l.length ≤ 100000) (hn : hasN l s = false) :
    Calls Try.prog 26 #[.pointer (some ⟨R, 0, none⟩), .string s] w fun e w' => e = .returned (.tuple #[.int .i64 0, .int .i64 3]) ∧ Below w.heap.size w w' := by
  go_enter Try.func26, Try.ntmps26
  go_wp2_with fail
  refine (rfind_none B R v l s w h hm hn).mono ?_
  rintro e w1 ⟨rfl, hb1⟩
  clear hm hn h
  go_wp2
  go_ret2
  exact ⟨rfl, hb1⟩
end Go.Proofs.Ytacffoobeebleaa
