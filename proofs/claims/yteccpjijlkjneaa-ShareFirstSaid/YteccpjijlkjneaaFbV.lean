/- Pop as a caller wants it. -/
import Derived.Test.YteccpjijlkjneaaFbS
namespace Go.Proofs.Yteccpjijlkjneaa
open Go.RowKit
variable {B H g cap : Nat} {w w' : World} {s s' : Hp} {least n : Int}
theorem Tur.gv {m : Nat} (h : Tur (FootG H g) w w') : Tur (FootV H (.slice (some ⟨g, 0, none⟩) m cap)) w w' := h.mono fun _ hk => .inl (foot_gv.1 hk)
theorem pop_v {v : Value} (h : HeapV B w H v s least n) (hg : Good s least n) (hn : 0 < n) : ∃ x, s.th x = true ∧ x < s.m ∧ okK (s.key x) ∧ (∀ z, s.th z = true → z = x ∨ s.lt x z) ∧ ∀ W, Below w.heap.size w W →
    Calls Try.prog 25 #[.pointer (some ⟨H, 0, none⟩)] W fun e w' => e = .returned (.tuple #[.int .i64 x, keyV (s.key x), .int .i64 0]) ∧ ∃ s' least', HeapV B w' H v s' least' (n - 1) ∧ Good s' least' (n - 1) ∧ SameK (s.clear x) s' ∧ Tur (FootV H v) W w' := by
  rcases hg.min with ⟨-, hh, -⟩ | ⟨x, hl, hx, tx, -, hmin⟩
  · omega
  · obtain ⟨g, cap, rfl, hG⟩ := h.open_ (by omega)
    have hok : okK (s.key x) := by obtain ⟨-, -, kids, L, hF, -⟩ := hg; exact hF.okk x tx
    refine ⟨x, tx, hx, hok, hmin, fun W hb => (pop_some (hG.below hb) hg hl hn).mono ?_⟩
    rintro e w' ⟨rfl, s', least', h2, g2, sk, t2⟩
    have em : s'.m = s.m := sk.1
    have h3 := h2.toV
    rw [em] at h3
    exact ⟨rfl, s', least', h3, g2, sk, t2.gv⟩
end Go.Proofs.Yteccpjijlkjneaa
