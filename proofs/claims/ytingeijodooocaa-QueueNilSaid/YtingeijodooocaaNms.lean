/- Rows of names, as rows of records of one cell (general). -/
import Derived.Test.YtingeijodooocaaProg
import Derived.Test.YtingeijodooocaaRws
import Derived.Test.YtingeijodooocaaDgT
import Derived.Sort.EncStr
import Derived.BigQuiet
import Derived.Deep.QuietTactic
import Derived.Deep.DeepCutAuto
namespace Go.Proofs.Ytingeijodooocaa
open Go.RowKit Go.Sort
variable {B n cap : Nat} {w w' wr : World} {A : Option Addr} {ks : List (List UInt8)} {v : Value}
abbrev bsK (k : List UInt8) : ByteArray := ⟨k.toArray⟩
def fK (k : List UInt8) (_ : Nat) : Value := .string (bsK k)
theorem fK_one (k : List UInt8) (c : Nat) : (fK k c).oneCell' = true := rfl
theorem flat_S (ks : List (List UInt8)) : flatR 1 fK ks = ks.map encStr := by
  induction ks with
  | nil => rfl
  | cons k t ih =>
    have e : flatR 1 fK (k :: t) = (List.range 1).map (fK k) ++ flatR 1 fK t := by simp [flatR]
    rw [e, ih]
    rfl
theorem recS : RecT 9 30 1 16 Try.prog := recT_of Try.underlying30 (by kernel_rfl) (by kernel_rfl)
/-- Names that lie in memory. -/
abbrev SlS (w : World) (A : Option Addr) (n : Nat) (ks : List (List UInt8)) : Prop := SlG 1 fK w A n ks
theorem SlS.at_ {i : Nat} {k : List UInt8} (h : SlS w A n ks) (hb : Below w.heap.size w w') (hi : ks[i]? = some k) : ∃ b off, A = some ⟨b, off, none⟩ ∧ b < w'.heap.size ∧ w'.cell? ⟨b, off + i, none⟩ = some (.string (bsK k)) := by
  obtain ⟨b, off, e, hl, hc⟩ := SlG.one h hb hi
  have := hc 0 (by omega)
  rw [Nat.mul_one, Nat.add_zero] at this
  exact ⟨b, off, e, hl, this⟩
theorem rowS_cells (h : w.ownsRow B 9 1 v n (flatR 1 fK ks)) (h0 : 0 < n) : ∃ g cap, v = .slice (some ⟨g, 0, none⟩) n cap ∧ B ≤ g ∧ g < w.heap.size ∧ ∀ i k, ks[i]? = some k → w.cell? ⟨g, i, none⟩ = some (.string (bsK k)) := by
  obtain ⟨g, cap, e, hB, hg, -, hc⟩ := rowR_cells h h0
  refine ⟨g, cap, e, hB, hg, fun i k hi => ?_⟩
  have := hc i k hi 0 (by omega)
  rw [Nat.mul_one, Nat.add_zero] at this
  exact this
/-- A name is put behind a row. -/
theorem rowS_app {T : World} {g : Nat} {k : List UInt8} (h : w.ownsRow B 9 1 (.slice A n cap) n (flatR 1 fK ks)) (hn : n + 1 ≤ 1000000) (hB : B ≤ w.heap.size) (hb : Below w.heap.size w T) (hg : T.heap[g]? = some (.cells #[.string (bsK k)] 9 (0, 0))) :
    ∃ g' cap' w8, (Builtin.append_ #[30, 30] 30 #[.slice A n cap, .slice (some ⟨g, 0, none⟩) 1 1]).run Try.prog T = .ok (.slice (some ⟨g', 0, none⟩) (n + 1) cap') w8 ∧
      w8.ownsRow B 9 1 (.slice (some ⟨g', 0, none⟩) (n + 1) cap') (n + 1) (flatR 1 fK (ks ++ [k])) ∧ Below B T w8 := by
  obtain ⟨g', cap', w8, happ, hown, -, -, -, hb8⟩ := rowR_app (m := [k]) (f := fK) recS (by omega) fK_one (rowR_below h hb) (by simp; omega) (by simp; omega) (Nat.le_trans hB hb.size) ⟨g, 0, none⟩ 1 (by simp) (fun o x hx => by
    have ho : o < 1 := by
      have := (List.getElem?_eq_some_iff.1 hx).1
      rw [flatR_len] at this
      simpa using this
    have e0 : (⟨g, 0, none⟩ : Addr).add o = ⟨g, o, none⟩ := by unfold Addr.add; split <;> simp_all
    rw [e0, blk_cell hg, ← hx, flatR_one]
    have : o = 0 := by omega
    subst this
    rfl)
  exact ⟨g', cap', w8, happ, hown, hb8⟩
set_option maxHeartbeats 2000000 in
theorem same_any {A2 : Option Addr} {n2 : Nat} (c c2 : Nat) (h : SlS w A n ks) (h2 : SlS w A2 n2 ks) (hn : n ≤ 100000) : Calls Try.prog 39 #[.slice A n c, .slice A2 n2 c2] w fun e w' => e = .returned (.bool true) ∧ Below w.heap.size w w' := by
  obtain rfl : n = n2 := h.1.trans h2.1.symm
  have HS := hid h
  have HT := hid h2
  have HL : Hid (n = ks.length) := h.1
  have hnb : (n : Int) ≤ 100000 := by omega
  clear h h2 hn
  go_enter Try.func39, Try.ntmps39
  go_wp2_with fail
  go_loopw [5] (fun iv wr => ∃ i : Nat, i ≤ n ∧ iv = .int .i64 i ∧ Hid (Below w.heap.size w wr)) (fun iv _ => n - (intOf iv).toNat)
  case atStart => exact ⟨0, Nat.zero_le _, rfl, hid (Below.refl _ _)⟩
  case round =>
    obtain ⟨i, hi, rfl, HB⟩ := hrel
    by_cases hin : i < n
    · have HK1 : Hid (i + 1 ≤ n) := hin
      have HMS : Hid (n - (i + 1) < n - i) := by unfold Hid; omega
      have hii : (i : Int) < (n : Int) := by omega
      obtain ⟨k, hk⟩ : ∃ k, ks[i]? = some k := ⟨_, List.getElem?_eq_getElem (by have := HL.out; omega)⟩
      obtain ⟨b, off, rfl, hl, c0⟩ := HS.out.at_ HB.out hk
      obtain ⟨b2, off2, rfl, hl2, c1⟩ := HT.out.at_ HB.out hk
      obtain ⟨z, hz⟩ : ∃ z, z = bsK k := ⟨_, rfl⟩
      rw [← hz] at c0 c1
      have hz2 : (z.toList == z.toList) = true := by simp
      have HB2 : Hid (∀ X, Below wr.heap.size wr X → Below w.heap.size w X) := fun X hb => HB.out.trans (hb.mono HB.out.size)
      clear hin hi hz hk
      go_upto_region 6 with (fail)
      go_quiet (fail)
      go_wp2
      go_roundw
      case rel => exact ⟨i + 1, HK1.out, by go_num, HB2.out _ (by repeat (first | with_reducible assumption | with_reducible exact Below.refl _ _ | with_reducible refine Below.drew ?_ | with_reducible refine below_drewN ?_ _ | with_reducible refine below_alloc ?_ _ | with_reducible refine Below.alloc ?_ (by first | omega | (simp; done) | (simp; omega)) _ | with_reducible refine Below.setCell ?_ (by first | omega | (simp; done) | (simp; omega)) _ | with_reducible refine below_setRow ?_ (by first | omega | (simp; done) | (simp; omega)) _))⟩
      case measure => have := HMS.out; simp [intOf]; omega
    · have hii : ¬ (i : Int) < (n : Int) := by omega
      clear hi hin
      go_wp2
      go_ret
      exact ⟨rfl, HB.out⟩
end Go.Proofs.Ytingeijodooocaa
