/- The contract of RatioOrder. Asked: that the six numbers are words, and the seventh a uint16. -/
import Derived.Test.YtbkopmgfkokmgaaWOrd2
namespace Go.Proofs.Ytbkopmgfkokmgaa
open Go.RowKit
theorem ratioOrder_any (an ad bn bd cn cd k : Int) (w : World) (an0 : 0 ≤ an) (an1 : an ≤ 18446744073709551615) (ad0 : 0 ≤ ad) (ad1 : ad ≤ 18446744073709551615) (bn0 : 0 ≤ bn) (bn1 : bn ≤ 18446744073709551615) (bd0 : 0 ≤ bd) (bd1 : bd ≤ 18446744073709551615) (cn0 : 0 ≤ cn) (cn1 : cn ≤ 18446744073709551615) (cd0 : 0 ≤ cd) (cd1 : cd ≤ 18446744073709551615) (k0 : 0 ≤ k) (k1 : k ≤ 65535) :
    Calls Try.prog 4 #[.agg #[.int .u64 an, .int .u64 ad, .int .u64 bn, .int .u64 bd, .int .u64 cn, .int .u64 cd], .int .u16 k] w fun e w' => e = .returned (.bool true) ∧ Below w.heap.size w w' := by
  by_cases za : ad = 0
  · have hz := za
    have h1 : ∀ W, Calls Try.prog 11 #[.agg #[.int .u64 an, .int .u64 ad], .agg #[.int .u64 bn, .int .u64 bd]] W fun e w' => e = .returned (.tuple #[.int .i64 (cmpR an ad bn bd).1, .int .i64 4]) ∧ Below W.heap.size W w' := fun W => by
      have h := cmpR_any an ad bn bd W an0 an1 ad0 ad1 bn0 bn1 bd0 bd1; rw [show cmpR an ad bn bd = (0, 4) from by unfold cmpR; rw [if_pos (.inl za)]] at h ⊢; exact h
    have H1 := hid h1
    clear h1
    have h2 : ∀ W, Calls Try.prog 11 #[.agg #[.int .u64 bn, .int .u64 bd], .agg #[.int .u64 cn, .int .u64 cd]] W fun e w' => e = .returned (.tuple #[.int .i64 (cmpR bn bd cn cd).1, .int .i64 (cmpR bn bd cn cd).2]) ∧ Below W.heap.size W w' := fun W => by
      have h := cmpR_any bn bd cn cd W bn0 bn1 bd0 bd1 cn0 cn1 cd0 cd1; exact h
    have H2 := hid h2
    clear h2
    have h3 : ∀ W, Calls Try.prog 11 #[.agg #[.int .u64 an, .int .u64 ad], .agg #[.int .u64 cn, .int .u64 cd]] W fun e w' => e = .returned (.tuple #[.int .i64 (cmpR an ad cn cd).1, .int .i64 4]) ∧ Below W.heap.size W w' := fun W => by
      have h := cmpR_any an ad cn cd W an0 an1 ad0 ad1 cn0 cn1 cd0 cd1; rw [show cmpR an ad cn cd = (0, 4) from by unfold cmpR; rw [if_pos (.inl za)]] at h ⊢; exact h
    have H3 := hid h3
    clear h3
    have h4 : ∀ W, Calls Try.prog 11 #[.agg #[.int .u64 bn, .int .u64 bd], .agg #[.int .u64 an, .int .u64 ad]] W fun e w' => e = .returned (.tuple #[.int .i64 (cmpR bn bd an ad).1, .int .i64 4]) ∧ Below W.heap.size W w' := fun W => by
      have h := cmpR_any bn bd an ad W bn0 bn1 bd0 bd1 an0 an1 ad0 ad1; rw [show cmpR bn bd an ad = (0, 4) from by unfold cmpR; rw [if_pos (.inr za)]] at h ⊢; exact h
    have H4 := hid h4
    clear h4
    exact order_r1 an ad bn bd cn cd k w _ _ _ _ _ (by simp [za]) H1 H2 H3 H4
  by_cases zb : bd = 0
  · have hz := zb
    have h1 : ∀ W, Calls Try.prog 11 #[.agg #[.int .u64 an, .int .u64 ad], .agg #[.int .u64 bn, .int .u64 bd]] W fun e w' => e = .returned (.tuple #[.int .i64 (cmpR an ad bn bd).1, .int .i64 4]) ∧ Below W.heap.size W w' := fun W => by
      have h := cmpR_any an ad bn bd W an0 an1 ad0 ad1 bn0 bn1 bd0 bd1; rw [show cmpR an ad bn bd = (0, 4) from by unfold cmpR; rw [if_pos (.inr zb)]] at h ⊢; exact h
    have H1 := hid h1
    clear h1
    have h2 : ∀ W, Calls Try.prog 11 #[.agg #[.int .u64 bn, .int .u64 bd], .agg #[.int .u64 cn, .int .u64 cd]] W fun e w' => e = .returned (.tuple #[.int .i64 (cmpR bn bd cn cd).1, .int .i64 4]) ∧ Below W.heap.size W w' := fun W => by
      have h := cmpR_any bn bd cn cd W bn0 bn1 bd0 bd1 cn0 cn1 cd0 cd1; rw [show cmpR bn bd cn cd = (0, 4) from by unfold cmpR; rw [if_pos (.inl zb)]] at h ⊢; exact h
    have H2 := hid h2
    clear h2
    have h3 : ∀ W, Calls Try.prog 11 #[.agg #[.int .u64 an, .int .u64 ad], .agg #[.int .u64 cn, .int .u64 cd]] W fun e w' => e = .returned (.tuple #[.int .i64 (cmpR an ad cn cd).1, .int .i64 (cmpR an ad cn cd).2]) ∧ Below W.heap.size W w' := fun W => by
      have h := cmpR_any an ad cn cd W an0 an1 ad0 ad1 cn0 cn1 cd0 cd1; exact h
    have H3 := hid h3
    clear h3
    have h4 : ∀ W, Calls Try.prog 11 #[.agg #[.int .u64 bn, .int .u64 bd], .agg #[.int .u64 an, .int .u64 ad]] W fun e w' => e = .returned (.tuple #[.int .i64 (cmpR bn bd an ad).1, .int .i64 4]) ∧ Below W.heap.size W w' := fun W => by
      have h := cmpR_any bn bd an ad W bn0 bn1 bd0 bd1 an0 an1 ad0 ad1; rw [show cmpR bn bd an ad = (0, 4) from by unfold cmpR; rw [if_pos (.inl zb)]] at h ⊢; exact h
    have H4 := hid h4
    clear h4
    exact order_r2 an ad bn bd cn cd k w _ _ _ _ _ (by simp [za]) (by simp [zb]) H1 H2 H3 H4
  by_cases zc : cd = 0
  · have hz := zc
    have h1 : ∀ W, Calls Try.prog 11 #[.agg #[.int .u64 an, .int .u64 ad], .agg #[.int .u64 bn, .int .u64 bd]] W fun e w' => e = .returned (.tuple #[.int .i64 (cmpR an ad bn bd).1, .int .i64 0]) ∧ Below W.heap.size W w' := fun W => by
      have h := cmpR_any an ad bn bd W an0 an1 ad0 ad1 bn0 bn1 bd0 bd1; have e : (cmpR an ad bn bd).2 = 0 := (by unfold cmpR; rw [if_neg (by omega)]); rw [e] at h; exact h
    have H1 := hid h1
    clear h1
    have h2 : ∀ W, Calls Try.prog 11 #[.agg #[.int .u64 bn, .int .u64 bd], .agg #[.int .u64 cn, .int .u64 cd]] W fun e w' => e = .returned (.tuple #[.int .i64 (cmpR bn bd cn cd).1, .int .i64 4]) ∧ Below W.heap.size W w' := fun W => by
      have h := cmpR_any bn bd cn cd W bn0 bn1 bd0 bd1 cn0 cn1 cd0 cd1; rw [show cmpR bn bd cn cd = (0, 4) from by unfold cmpR; rw [if_pos (.inr zc)]] at h ⊢; exact h
    have H2 := hid h2
    clear h2
    have h3 : ∀ W, Calls Try.prog 11 #[.agg #[.int .u64 an, .int .u64 ad], .agg #[.int .u64 cn, .int .u64 cd]] W fun e w' => e = .returned (.tuple #[.int .i64 (cmpR an ad cn cd).1, .int .i64 4]) ∧ Below W.heap.size W w' := fun W => by
      have h := cmpR_any an ad cn cd W an0 an1 ad0 ad1 cn0 cn1 cd0 cd1; rw [show cmpR an ad cn cd = (0, 4) from by unfold cmpR; rw [if_pos (.inr zc)]] at h ⊢; exact h
    have H3 := hid h3
    clear h3
    have h4 : ∀ W, Calls Try.prog 11 #[.agg #[.int .u64 bn, .int .u64 bd], .agg #[.int .u64 an, .int .u64 ad]] W fun e w' => e = .returned (.tuple #[.int .i64 (cmpR bn bd an ad).1, .int .i64 0]) ∧ Below W.heap.size W w' := fun W => by
      have h := cmpR_any bn bd an ad W bn0 bn1 bd0 bd1 an0 an1 ad0 ad1; have e : (cmpR bn bd an ad).2 = 0 := (by unfold cmpR; rw [if_neg (by omega)]); rw [e] at h; exact h
    have H4 := hid h4
    clear h4
    exact order_r3 an ad bn bd cn cd k w _ _ _ _ (by simp [za]) (by simp [zb]) (by simp [zc]) H1 H2 H3 H4
  · obtain ⟨i, j, m, q1, q2, q3, q4, i0, i1, ht1, ht2⟩ := order_law (an := an) (bn := bn) (cn := cn) (show 0 < ad by omega) (show 0 < bd by omega) (show 0 < cd by omega)
    have h1 : ∀ W, Calls Try.prog 11 #[.agg #[.int .u64 an, .int .u64 ad], .agg #[.int .u64 bn, .int .u64 bd]] W fun e w' => e = .returned (.tuple #[.int .i64 i, .int .i64 0]) ∧ Below W.heap.size W w' := fun W => by
      have h := cmpR_any an ad bn bd W an0 an1 ad0 ad1 bn0 bn1 bd0 bd1; rw [q1] at h; exact h
    have H1 := hid h1
    clear h1
    have h2 : ∀ W, Calls Try.prog 11 #[.agg #[.int .u64 bn, .int .u64 bd], .agg #[.int .u64 cn, .int .u64 cd]] W fun e w' => e = .returned (.tuple #[.int .i64 j, .int .i64 0]) ∧ Below W.heap.size W w' := fun W => by
      have h := cmpR_any bn bd cn cd W bn0 bn1 bd0 bd1 cn0 cn1 cd0 cd1; rw [q2] at h; exact h
    have H2 := hid h2
    clear h2
    have h3 : ∀ W, Calls Try.prog 11 #[.agg #[.int .u64 an, .int .u64 ad], .agg #[.int .u64 cn, .int .u64 cd]] W fun e w' => e = .returned (.tuple #[.int .i64 m, .int .i64 0]) ∧ Below W.heap.size W w' := fun W => by
      have h := cmpR_any an ad cn cd W an0 an1 ad0 ad1 cn0 cn1 cd0 cd1; rw [q3] at h; exact h
    have H3 := hid h3
    clear h3
    have h4 : ∀ W, Calls Try.prog 11 #[.agg #[.int .u64 bn, .int .u64 bd], .agg #[.int .u64 an, .int .u64 ad]] W fun e w' => e = .returned (.tuple #[.int .i64 (-i), .int .i64 0]) ∧ Below W.heap.size W w' := fun W => by
      have h := cmpR_any bn bd an ad W bn0 bn1 bd0 bd1 an0 an1 ad0 ad1; rw [q4] at h; exact h
    have H4 := hid h4
    clear h4
    by_cases g1 : 1099511627776 < an
    · exact order_big1 an ad bn bd cn cd k w i j m i0 i1 k0 k1 ht1 ht2 g1 H1 H2 H3 H4
    by_cases g2 : 1099511627776 < ad
    · exact order_big2 an ad bn bd cn cd k w i j m i0 i1 k0 k1 ht1 ht2 (by omega) g2 H1 H2 H3 H4
    have p1 := Int.mul_nonneg an0 (show 0 ≤ k + 1 by omega)
    have p2 := Int.mul_nonneg ad0 (show 0 ≤ k + 1 by omega)
    have p3 : an * (k + 1) ≤ 1099511627776 * 65536 := Int.mul_le_mul (by omega) (by omega) (by omega) (by omega)
    have p4 : ad * (k + 1) ≤ 1099511627776 * 65536 := Int.mul_le_mul (by omega) (by omega) (by omega) (by omega)
    have q5 := order_same (an := an) (show 0 < ad by omega) (show 0 < k + 1 by omega)
    have h5 : ∀ W, Calls Try.prog 11 #[.agg #[.int .u64 an, .int .u64 ad], .agg #[.int .u64 (an * (k + 1)), .int .u64 (ad * (k + 1))]] W fun e w' => e = .returned (.tuple #[.int .i64 0, .int .i64 0]) ∧ Below W.heap.size W w' := fun W => by
      have h := cmpR_any an ad (an * (k + 1)) (ad * (k + 1)) W an0 an1 ad0 ad1 p1 (by omega) p2 (by omega)
      rw [q5] at h
      exact h
    exact order_ok an ad bn bd cn cd k w i j m i0 i1 k0 k1 ht1 ht2 an0 (by omega) ad0 (by omega) (by omega) p1 (by omega) p2 H1 H2 H3 H4 (hid h5)
end Go.Proofs.Ytbkopmgfkokmgaa
