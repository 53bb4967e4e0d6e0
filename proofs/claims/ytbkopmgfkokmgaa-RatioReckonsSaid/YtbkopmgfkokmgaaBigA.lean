/- The contract of the reference's lowest: the lowest form, where both parts are words. Asked: that both numbers are at most half of 2^256, and the second isn't nought. -/
import Derived.Test.YtbkopmgfkokmgaaBig9
import Derived.Test.YtbkopmgfkokmgaaFrac
namespace Go.Proofs.Ytbkopmgfkokmgaa
open Go.RowKit
theorem low_nat (n d : Nat) : ((n / Nat.gcd n d : Nat) : Int) = (n : Int) / gc n d ∧ ((d / Nat.gcd n d : Nat) : Int) = (d : Int) / gc n d := by
  rw [gc_nat, Int.natCast_ediv, Int.natCast_ediv]; exact ⟨rfl, rfl⟩
theorem big_le {a b : Nat} (h : Big b) (h' : a ≤ b) : Big a := Nat.lt_of_le_of_lt h' h
theorem rlowest_any (n d : Nat) (w : World) (hn : 2 * n ≤ 2 ^ 256) (hd : 2 * d ≤ 2 ^ 256) (h0 : 0 < d) :
    Calls Try.prog 29 #[.agg (bigA n), .agg (bigA d)] w fun e w' => e = .returned (.tuple #[.agg #[.int .u64 (fracR n d).1.1, .int .u64 (fracR n d).1.2], .int .i64 (fracR n d).2]) ∧ Below w.heap.size w w' := by
  have g0 : 0 < Nat.gcd n d := Nat.gcd_pos_of_pos_right n h0
  have gd : Nat.gcd n d ≤ d := Nat.le_of_dvd h0 (Nat.gcd_dvd_right n d)
  have HG := fun W => gcd_big n d W (hid hn) (hid hd)
  have HD1 := fun W => divided_big n (Nat.gcd n d) W (hid g0) (hid (by omega)) (hid (half_big hn))
  have HD2 := fun W => divided_big d (Nat.gcd n d) W (hid g0) (hid (by omega)) (hid (half_big hd))
  have HW1 := fun W => word_any (n / Nat.gcd n d) W (hid (big_le (half_big hn) (Nat.div_le_self _ _)))
  have HW2 := fun W => word_any (d / Nat.gcd n d) W (hid (big_le (half_big hd) (Nat.div_le_self _ _)))
  obtain ⟨e1, e2⟩ := low_nat n d
  generalize n / Nat.gcd n d = x at *
  generalize d / Nat.gcd n d = y at *
  generalize n % Nat.gcd n d = p at *
  generalize d % Nat.gcd n d = q at *
  generalize Nat.gcd n d = g at *
  by_cases hx : (x : Int) ≤ 18446744073709551615
  · have t1 := word_yes hx (rfl : (x : Int) = x)
    rw [← t1] at HW1
    by_cases hy : (y : Int) ≤ 18446744073709551615
    · have t2 := word_yes hy (rfl : (y : Int) = y)
      rw [← t2] at HW2
      have hf : fracR n d = (((x : Int), (y : Int)), 0) := by
        unfold fracR; rw [← e1, ← e2, if_pos ⟨hx, hy⟩]
      rw [hf]
      exact low_ok n d g x y p q _ _ w (hid HG) (hid HD1) (hid HD2) (hid HW1) (hid HW2)
    · have t2 := word_no hy
      rw [← t2] at HW2
      have hf : fracR n d = ((0, 0), 7) := by
        unfold fracR; rw [← e1, ← e2, if_neg (fun h => hy h.2)]
      rw [hf]
      exact low_o2 n d g x y p q _ _ w (hid HG) (hid HD1) (hid HD2) (hid HW1) (hid HW2)
  · have t1 := word_no hx
    rw [← t1] at HW1
    have hf : fracR n d = ((0, 0), 7) := by
      unfold fracR; rw [← e1, ← e2, if_neg (fun h => hx h.1)]
    rw [hf]
    by_cases hy : (y : Int) ≤ 18446744073709551615
    · rw [← word_yes hy (rfl : (y : Int) = y)] at HW2
      exact low_o1 n d g x y p q _ _ _ w (hid HG) (hid HD1) (hid HD2) (hid HW1) (hid HW2)
    · rw [← word_no hy] at HW2
      exact low_o1 n d g x y p q _ _ _ w (hid HG) (hid HD1) (hid HD2) (hid HW1) (hid HW2)
end Go.Proofs.Ytbkopmgfkokmgaa
