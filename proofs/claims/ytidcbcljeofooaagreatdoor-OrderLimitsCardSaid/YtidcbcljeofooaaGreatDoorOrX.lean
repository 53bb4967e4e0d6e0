/- Chapter 20: the words of lines. -/
import Derived.Test.YtidcbcljeofooaaGreatDoorOrV
import Derived.Test.YtidcbcljeofooaaGreatDoorMap
import Derived.WideMake
namespace Go.Proofs.YtidcbcljeofooaaGreatDoor
open Go.RowKit
theorem ne_list {s : ByteArray} {l : List UInt8} (h : s.data.toList ≠ l) : (s.toList == l) = false := by
  rw [beq_eq_false_iff_ne, Go.Lib.toList_data]; exact h
theorem ne_list2 {s : ByteArray} {l : List UInt8} (h : s.data.toList ≠ l) : ¬ s.toList = l := by
  rw [Go.Lib.toList_data]; exact h
theorem of_list {s : ByteArray} {l : List UInt8} (h : s.data.toList = l) : s = ⟨l.toArray⟩ := ByteArray.ext (Array.ext' (by rw [h]))
def mkI (n : Int) : Value := .int .i64 n
theorem mkI_inj : ∀ x y, mkI x = mkI y → x = y := fun x y h => by unfold mkI at h; injection h
theorem zeroInt (w : World) : (zeroValue 3).run Tryz.prog w = .ok (mkI 0) w := by kernel_rfl
def wTen : ByteArray := ⟨#[116, 101, 110, 97, 110, 116]⟩
def wUp : ByteArray := ⟨#[117, 112]⟩
/-- A literal of two entries, made in two orders: what is looked up in it. -/
theorem lit2 (w : World) (a b : ByteArray) (x y : Int) (ha : a.size ≤ maxLen) (hb : b.size ≤ maxLen) (hne : a.data.toList ≠ b.data.toList) : ∃ wA wB,
    (Instr.mapUpdate 96 (.map (some w.heap.size)) (.string a) (.int .i64 x)).run Tryz.prog (w.alloc (.map #[] 0)) = .ok () wA ∧ (Instr.mapUpdate 96 (.map (some w.heap.size)) (.string b) (.int .i64 y)).run Tryz.prog wA = .ok () wB ∧
      (Instr.lookup 96 (.map (some w.heap.size)) (.string a) false).run Tryz.prog wB = .ok (.int .i64 x) wB ∧ (Instr.lookup 96 (.map (some w.heap.size)) (.string b) false).run Tryz.prog wB = .ok (.int .i64 y) wB ∧ Below w.heap.size w wB := by
  have h0 := OwnsM.made w Tryz.prog 9 mkI
  obtain ⟨wA, hA, oA, gA, sA⟩ := h0.store mkI_inj Tryz.underlying9 Tryz.underlying96 (by unfold maxLen; omega) ha x
  obtain ⟨wB, hB, oB, gB, sB⟩ := oA.store mkI_inj Tryz.underlying9 Tryz.underlying96 (by unfold maxLen; split <;> omega) hb y
  have l1 := oB.look mkI_inj Tryz.underlying9 Tryz.underlying96 (zeroInt _) ha
  have l2 := oB.look mkI_inj Tryz.underlying9 Tryz.underlying96 (zeroInt _) hb
  rw [putA_other _ _ hne, putA_same] at l1
  rw [putA_same] at l2
  refine ⟨wA, wB, hA, hB, l1, l2, ?_⟩
  have b1 : Below w.heap.size w (w.alloc (.map #[] 0)) := below_alloc (Below.refl _ _) _
  have b2 := Below.grown b1 gA b1.size (fun j e => by injection e with e; omega)
  exact Below.grown b2 gB b2.size (fun j e => by injection e with e; omega)
theorem below_drewn {w X : World} (h : Below w.drew.heap.size w.drew X) : Below w.heap.size w X := ((Below.refl w.heap.size w).drew).trans h
theorem drew_alloc (w : World) (o : Obj) : w.drew.alloc o = (w.alloc o).drew := rfl
section
attribute [local go_sem] run_makeMap_plain
set_option maxHeartbeats 4000000 in
set_option maxRecDepth 20000 in
theorem count_any (s : ByteArray) (w : World) :
    Calls Tryz.prog 24 #[.string s] w fun e w' => e = .returned (.tuple #[.int .i64 (cntP s.data.toList).1, .int .i64 (cntP s.data.toList).2]) ∧ Below w.heap.size w w' := by
  by_cases h0 : s.data.toList = [116, 101, 110, 97, 110, 116]
  · obtain rfl := of_list h0
    clear h0
    obtain ⟨wA, wB, e1, e2, e3, e4, hb⟩ := lit2 w.drew wTen wUp 1 5 (by decide) (by decide) (by decide)
    obtain ⟨wC, wD, f1, f2, f3, f4, hd⟩ := lit2 w.drew wUp wTen 5 1 (by decide) (by decide) (by decide)
    unfold wTen at e1 e3 f2 f4
    unfold wUp at e2 e4 f1 f3
    rw [drew_alloc] at e1 f1
    rw [heap_drew] at e1 e2 e3 e4 f1 f2 f3 f4
    have HB := hid hb
    have HD := hid hd
    clear hb hd
    go_enter Tryz.func24, Tryz.ntmps24
    go_wp2_with fail
    go_region
    all_goals
      go_wp2_with fail
      go_ret2
      refine ⟨rfl, ?_⟩
      first | exact below_drewn HB.out | exact below_drewn HD.out
  by_cases h1 : s.data.toList = [117, 112]
  · obtain rfl := of_list h1
    clear h0 h1
    obtain ⟨wA, wB, e1, e2, e3, e4, hb⟩ := lit2 w.drew wTen wUp 1 5 (by decide) (by decide) (by decide)
    obtain ⟨wC, wD, f1, f2, f3, f4, hd⟩ := lit2 w.drew wUp wTen 5 1 (by decide) (by decide) (by decide)
    unfold wTen at e1 e3 f2 f4
    unfold wUp at e2 e4 f1 f3
    rw [drew_alloc] at e1 f1
    rw [heap_drew] at e1 e2 e3 e4 f1 f2 f3 f4
    have HB := hid hb
    have HD := hid hd
    clear hb hd
    go_enter Tryz.func24, Tryz.ntmps24
    go_wp2_with fail
    go_region
    all_goals
      go_wp2_with fail
      go_ret2
      refine ⟨rfl, ?_⟩
      first | exact below_drewn HB.out | exact below_drewn HD.out
  by_cases h2 : s.data.toList = [115, 117, 98, 109, 105, 116]
  · obtain rfl := of_list h2
    clear h0 h1 h2
    go_enter Tryz.func24, Tryz.ntmps24
    go_wp2
    go_ret2
    exact ⟨rfl, Below.refl _ _⟩
  by_cases h3 : s.data.toList = [99, 97, 110, 99, 101, 108]
  · obtain rfl := of_list h3
    clear h0 h1 h2 h3
    go_enter Tryz.func24, Tryz.ntmps24
    go_wp2
    go_ret2
    exact ⟨rfl, Below.refl _ _⟩
  by_cases h4 : s.data.toList = [113, 117, 101, 114, 121]
  · obtain rfl := of_list h4
    clear h0 h1 h2 h3 h4
    go_enter Tryz.func24, Tryz.ntmps24
    go_wp2
    go_ret2
    exact ⟨rfl, Below.refl _ _⟩
  by_cases h5 : s.data.toList = [98, 101, 97, 116]
  · obtain rfl := of_list h5
    clear h0 h1 h2 h3 h4 h5
    go_enter Tryz.func24, Tryz.ntmps24
    go_wp2
    go_ret2
    exact ⟨rfl, Below.refl _ _⟩
  by_cases h6 : s.data.toList = [100, 111, 110, 101]
  · obtain rfl := of_list h6
    clear h0 h1 h2 h3 h4 h5 h6
    go_enter Tryz.func24, Tryz.ntmps24
    go_wp2
    go_ret2
    exact ⟨rfl, Below.refl _ _⟩
  by_cases h7 : s.data.toList = [102, 97, 105, 108]
  · obtain rfl := of_list h7
    clear h0 h1 h2 h3 h4 h5 h6 h7
    go_enter Tryz.func24, Tryz.ntmps24
    go_wp2
    go_ret2
    exact ⟨rfl, Below.refl _ _⟩
  by_cases h8 : s.data.toList = [116, 105, 99, 107]
  · obtain rfl := of_list h8
    clear h0 h1 h2 h3 h4 h5 h6 h7 h8
    go_enter Tryz.func24, Tryz.ntmps24
    go_wp2
    go_ret2
    exact ⟨rfl, Below.refl _ _⟩
  by_cases h9 : s.data.toList = [110, 111, 100, 101, 115]
  · obtain rfl := of_list h9
    clear h0 h1 h2 h3 h4 h5 h6 h7 h8 h9
    go_enter Tryz.func24, Tryz.ntmps24
    go_wp2
    go_ret2
    exact ⟨rfl, Below.refl _ _⟩
  have hc : cntP s.data.toList = (0, 0) := by
    unfold cntP
    rw [if_neg h0, if_neg h1, if_neg h2, if_neg h3, if_neg h4, if_neg h5, if_neg h6, if_neg h7, if_neg h8, if_neg h9]
  rw [hc]
  have g0 := ne_list h0
  have g1 := ne_list h1
  have g2 := ne_list h2
  have g3 := ne_list h3
  have g4 := ne_list h4
  have g5 := ne_list h5
  have g6 := ne_list h6
  have g7 := ne_list h7
  have g8 := ne_list h8
  have g9 := ne_list h9
  clear hc h0 h1 h2 h3 h4 h5 h6 h7 h8 h9
  go_enter Tryz.func24, Tryz.ntmps24
  go_wp2
  go_ret2
  exact ⟨rfl, Below.refl _ _⟩
end
end Go.Proofs.YtidcbcljeofooaaGreatDoor
