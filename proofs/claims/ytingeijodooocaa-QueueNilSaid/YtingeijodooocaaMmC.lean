/- Chapter 14: cmp.Compare, cmp.Or, and slices.Compare over keys of three numbers. -/
import Derived.Test.YtingeijodooocaaProg
import Derived.Test.YtingeijodooocaaCls
import Derived.BigRegion
namespace Go.Proofs.Ytingeijodooocaa
open Go.RowKit
def cmpZ (a b : Int) : Int := if a < b then -1 else if b < a then 1 else 0
theorem retI {a b : Int} (h : a = b) : Ending.returned (.int .i64 a) = .returned (.int .i64 b) := by rw [h]
set_option maxHeartbeats 400000 in
theorem or2 (g : Nat) (x y : Int) (w : World) (c0 : w.cell? ⟨g, 0, none⟩ = some (.int .i64 x)) (c1 : w.cell? ⟨g, 1, none⟩ = some (.int .i64 y)) :
    Calls Try.prog 31 #[.slice (some ⟨g, 0, none⟩) 2 2] w fun e w' => e = .returned (.int .i64 (if x ≠ 0 then x else y)) ∧ w = w' := by
  by_cases hx : x = 0
  · by_cases hy : y = 0
    · subst hx hy
      go_enter Try.func31, Try.ntmps31
      go_wp2
      refine wp_loop_rounds 3 ?_
      iterate 3 (rw [rounds_succ]; go_wp2)
      go_ret
      exact ⟨rfl, rfl⟩
    · subst hx
      have h1 : (y != 0) = true := by simp; omega
      go_enter Try.func31, Try.ntmps31
      go_wp2
      refine wp_loop_rounds 3 ?_
      iterate 2 (rw [rounds_succ]; go_wp2)
      go_ret
      exact ⟨rfl, rfl⟩
  · have h1 : (x != 0) = true := by simp; omega
    have HX := hid hx
    clear hx
    go_enter Try.func31, Try.ntmps31
    go_wp2
    refine wp_loop_rounds 3 ?_
    rw [rounds_succ]
    go_wp2
    go_ret
    exact ⟨retI (by first | rfl | rw [if_pos HX.out]), rfl⟩
theorem or2' (g : Nat) (x y : Int) (w : World) {t : TypeId} {f : Nat × Nat} (h : w.heap[g]? = some (.cells #[.int .i64 x, .int .i64 y] t f)) :
    Calls Try.prog 31 #[.slice (some ⟨g, 0, none⟩) 2 2] w fun e w' => e = .returned (.int .i64 (if x ≠ 0 then x else y)) ∧ w = w' :=
  or2 g x y w (by rw [blk_cell h]; rfl) (by rw [blk_cell h]; rfl)
theorem nanT_any (a : Int) (w : World) : Calls Try.prog 51 #[.int .i64 a] w fun e w' => e = .returned (.bool false) ∧ w = w' := by
  go_enter Try.func51, Try.ntmps51
  go_wp2
  go_ret
  exact ⟨by simp, rfl⟩
theorem cmpT_any (a b : Int) (w : World) : Calls Try.prog 32 #[.int .i64 a, .int .i64 b] w fun e w' => e = .returned (.int .i64 (cmpZ a b)) ∧ w = w' := by
  go_enter Try.func32, Try.ntmps32
  go_wp2_with fail
  refine (nanT_any _ _).mono ?_
  rintro e w1 ⟨rfl, rfl⟩
  go_wp2_with fail
  refine (nanT_any _ _).mono ?_
  rintro e w1 ⟨rfl, rfl⟩
  by_cases h1 : a < b
  · have e1 : cmpZ a b = -1 := by unfold cmpZ; rw [if_pos h1]
    have H1 := hid e1
    clear e1
    go_wp2
    go_ret
    exact ⟨retI H1.out.symm, rfl⟩
  · by_cases h2 : b < a
    · have e1 : cmpZ a b = 1 := by unfold cmpZ; rw [if_neg h1, if_pos h2]
      have H1 := hid e1
      clear e1
      go_wp2
      go_ret
      exact ⟨retI H1.out.symm, rfl⟩
    · have e1 : cmpZ a b = 0 := by unfold cmpZ; rw [if_neg h1, if_neg h2]
      have H1 := hid e1
      clear e1
      go_wp2
      go_ret
      exact ⟨retI H1.out.symm, rfl⟩
theorem nanN_any (a : Int) (w : World) : Calls Try.prog 86 #[.int .i64 a] w fun e w' => e = .returned (.bool false) ∧ w = w' := by
  go_enter Try.func86, Try.ntmps86
  go_wp2
  go_ret
  exact ⟨by simp, rfl⟩
theorem cmpN_any (a b : Int) (w : World) : Calls Try.prog 72 #[.int .i64 a, .int .i64 b] w fun e w' => e = .returned (.int .i64 (cmpZ a b)) ∧ w = w' := by
  go_enter Try.func72, Try.ntmps72
  go_wp2_with fail
  refine (nanN_any _ _).mono ?_
  rintro e w1 ⟨rfl, rfl⟩
  go_wp2_with fail
  refine (nanN_any _ _).mono ?_
  rintro e w1 ⟨rfl, rfl⟩
  by_cases h1 : a < b
  · have e1 : cmpZ a b = -1 := by unfold cmpZ; rw [if_pos h1]
    have H1 := hid e1
    clear e1
    go_wp2
    go_ret
    exact ⟨retI H1.out.symm, rfl⟩
  · by_cases h2 : b < a
    · have e1 : cmpZ a b = 1 := by unfold cmpZ; rw [if_neg h1, if_pos h2]
      have H1 := hid e1
      clear e1
      go_wp2
      go_ret
      exact ⟨retI H1.out.symm, rfl⟩
    · have e1 : cmpZ a b = 0 := by unfold cmpZ; rw [if_neg h1, if_neg h2]
      have H1 := hid e1
      clear e1
      go_wp2
      go_ret
      exact ⟨retI H1.out.symm, rfl⟩
/-- Keys of three numbers in order. -/
def cmp3 (a b : Int × Int × Int) : Int := if cmpZ a.1 b.1 ≠ 0 then cmpZ a.1 b.1 else if cmpZ a.2.1 b.2.1 ≠ 0 then cmpZ a.2.1 b.2.1 else cmpZ a.2.2 b.2.2
set_option maxHeartbeats 1600000 in
theorem cmpS_any (p q o r : Nat) (a b : Int × Int × Int) (w : World)
    (a0 : w.cell? ⟨p, o + 0, none⟩ = some (.int .i64 a.1)) (a1 : w.cell? ⟨p, o + 1, none⟩ = some (.int .i64 a.2.1)) (a2 : w.cell? ⟨p, o + 2, none⟩ = some (.int .i64 a.2.2))
    (b0 : w.cell? ⟨q, r + 0, none⟩ = some (.int .i64 b.1)) (b1 : w.cell? ⟨q, r + 1, none⟩ = some (.int .i64 b.2.1)) (b2 : w.cell? ⟨q, r + 2, none⟩ = some (.int .i64 b.2.2)) :
    Calls Try.prog 71 #[.slice (some ⟨p, o, none⟩) 3 3, .slice (some ⟨q, r, none⟩) 3 3] w fun e w' => e = .returned (.int .i64 (cmp3 a b)) ∧ w = w' := by
  obtain ⟨x0, x1, x2⟩ := a
  obtain ⟨y0, y1, y2⟩ := b
  rw [Nat.add_zero] at a0 b0
  by_cases h0 : cmpZ x0 y0 = 0
  · by_cases h1 : cmpZ x1 y1 = 0
    · have E : cmp3 (x0, x1, x2) (y0, y1, y2) = cmpZ x2 y2 := by simp only [cmp3]; rw [if_neg (by simp [h0]), if_neg (by simp [h1])]
      by_cases h2 : cmpZ x2 y2 = 0
      · rw [h2] at E
        have HE := hid E
        have H0 := hid h0
        have H1 := hid h1
        have H2 := hid h2
        clear E h0 h1 h2
        go_enter Try.func71, Try.ntmps71
        go_wp2
        refine wp_loop_rounds 4 ?_
        rw [rounds_succ]
        go_wp2_with fail
        refine (cmpT_any _ _ _).mono ?_
        rintro e w1 ⟨rfl, rfl⟩
        rw [H0.out]
        go_wp2
        rw [rounds_succ]
        go_wp2_with fail
        refine (cmpT_any _ _ _).mono ?_
        rintro e w1 ⟨rfl, rfl⟩
        rw [H1.out]
        go_wp2
        rw [rounds_succ]
        go_wp2_with fail
        refine (cmpT_any _ _ _).mono ?_
        rintro e w1 ⟨rfl, rfl⟩
        rw [H2.out]
        go_wp2
        rw [rounds_succ]
        go_wp2
        go_ret
        exact ⟨retI HE.out.symm, rfl⟩
      · obtain ⟨c, hc⟩ : ∃ c, c = cmpZ x2 y2 := ⟨_, rfl⟩
        rw [← hc] at E h2
        have n2 : (c != 0) = true := by simp; omega
        have HE := hid E
        have H0 := hid h0
        have H1 := hid h1
        have H2 := hid hc
        clear E h0 h1 h2 hc
        go_enter Try.func71, Try.ntmps71
        go_wp2
        refine wp_loop_rounds 4 ?_
        rw [rounds_succ]
        go_wp2_with fail
        refine (cmpT_any _ _ _).mono ?_
        rintro e w1 ⟨rfl, rfl⟩
        rw [H0.out]
        go_wp2
        rw [rounds_succ]
        go_wp2_with fail
        refine (cmpT_any _ _ _).mono ?_
        rintro e w1 ⟨rfl, rfl⟩
        rw [H1.out]
        go_wp2
        rw [rounds_succ]
        go_wp2_with fail
        refine (cmpT_any _ _ _).mono ?_
        rintro e w1 ⟨rfl, rfl⟩
        rw [← H2.out]
        go_wp2
        go_ret
        exact ⟨retI HE.out.symm, rfl⟩
    · have E : cmp3 (x0, x1, x2) (y0, y1, y2) = cmpZ x1 y1 := by simp only [cmp3]; rw [if_neg (by simp [h0]), if_pos (by simpa using h1)]
      obtain ⟨c, hc⟩ : ∃ c, c = cmpZ x1 y1 := ⟨_, rfl⟩
      rw [← hc] at E h1
      have n2 : (c != 0) = true := by simp; omega
      have HE := hid E
      have H0 := hid h0
      have H2 := hid hc
      clear E h0 h1 hc
      go_enter Try.func71, Try.ntmps71
      go_wp2
      refine wp_loop_rounds 4 ?_
      rw [rounds_succ]
      go_wp2_with fail
      refine (cmpT_any _ _ _).mono ?_
      rintro e w1 ⟨rfl, rfl⟩
      rw [H0.out]
      go_wp2
      rw [rounds_succ]
      go_wp2_with fail
      refine (cmpT_any _ _ _).mono ?_
      rintro e w1 ⟨rfl, rfl⟩
      rw [← H2.out]
      go_wp2
      go_ret
      exact ⟨retI HE.out.symm, rfl⟩
  · have E : cmp3 (x0, x1, x2) (y0, y1, y2) = cmpZ x0 y0 := by simp only [cmp3]; rw [if_pos (by simpa using h0)]
    obtain ⟨c, hc⟩ : ∃ c, c = cmpZ x0 y0 := ⟨_, rfl⟩
    rw [← hc] at E h0
    have n2 : (c != 0) = true := by simp; omega
    have HE := hid E
    have H2 := hid hc
    clear E h0 hc
    go_enter Try.func71, Try.ntmps71
    go_wp2
    refine wp_loop_rounds 4 ?_
    rw [rounds_succ]
    go_wp2_with fail
    refine (cmpT_any _ _ _).mono ?_
    rintro e w1 ⟨rfl, rfl⟩
    rw [← H2.out]
    go_wp2
    go_ret
    exact ⟨retI HE.out.symm, rfl⟩
end Go.Proofs.Ytingeijodooocaa
