/- Chapter 8's reference heap: Min decided; one entry is changed. -/
import Derived.Test.YthdbiablpkeagaaRfC
namespace Go.Proofs.Ythdbiablpkeagaa
open Go.RowKit
variable {B H g cap : Nat} {w w' : World} {s s' : Hp} {v : Value}
theorem rmin_none (h : RefV B w H v s) (hm : s.m ≤ 1048576) (hno : ∀ z, s.th z = false) : Calls Try.prog 34 #[.pointer (some ⟨H, 0, none⟩)] w fun e w' => e = .returned (.tuple #[.int .i64 0, keyV (0, 0, 0), .int .i64 3]) ∧ Below w.heap.size w w' := by
  refine (rmin_g h hm (fun z hz => by rw [hno z] at hz; cases hz)).mono ?_
  rintro e w' ⟨⟨b, hb, ⟨-, e1⟩ | ⟨y, hy, -⟩⟩, bel⟩
  · exact ⟨e1, bel⟩
  · exfalso
    rcases hb with ⟨q, -⟩ | ⟨y', -, -, ty, -⟩
    · omega
    · rw [hno y'] at ty; cases ty
theorem rmin_some {x : Nat} (h : RefV B w H v s) (hm : s.m ≤ 1048576) (hok : ∀ z, s.th z = true → okK (s.key z)) (hx : x < s.m) (tx : s.th x = true) (hmin : ∀ z, s.th z = true → z = x ∨ s.lt x z) : Calls Try.prog 34 #[.pointer (some ⟨H, 0, none⟩)] w fun e w' => e = .returned (.tuple #[.int .i64 x, keyV (s.key x), .int .i64 0]) ∧ Below w.heap.size w w' := by
  refine (rmin_g h hm hok).mono ?_
  rintro e w' ⟨⟨b, hb, hr⟩, bel⟩
  rcases hb with ⟨q, hno⟩ | ⟨y, hy, hym, ty, hall⟩
  · rw [hno x hx] at tx; cases tx
  · have exy : y = x := by
      rcases hall x hx tx with q | q
      · exact q.symm
      · rcases hmin y ty with q2 | q2
        · exact q2
        · exact absurd q2 (ltk_asy q)
    subst exy
    rcases hr with ⟨q, -⟩ | ⟨y', q, e1⟩
    · omega
    · have : y' = y := by omega
      subst this
      exact ⟨e1, bel⟩
theorem RefV.set {x c : Nat} {u : Value} (h : RefV B w H (.slice (some ⟨g, 0, none⟩) s.m cap) s) (hne : g ≠ H) (hx : x < s.m) (hc : c < 4) (hu : UpdR s x c u s') : RefV B (w.setCell ⟨g, x * 4 + c, none⟩ u) H (.slice (some ⟨g, 0, none⟩) s'.m cap) s' := by
  have hst := (h.row.stored (x * 4 + c) u).1
  rw [flatR_set hu hx hc] at hst
  refine ⟨h.hB, ?_, ?_⟩
  · rw [hu.1]
    exact heap_set_ne (Ne.symm hne) h.blk
  · rw [hu.1]
    exact hst
/-- A key is stored. -/
theorem RefV.keyed {x : Nat} (h : RefV B w H (.slice (some ⟨g, 0, none⟩) s.m cap) s) (hne : g ≠ H) (hx : x < s.m) (k : K3) :
    RefV B (((w.setCell ⟨g, x * 4, none⟩ (.int .u64 k.1)).setCell ⟨g, x * 4 + 1, none⟩ (.int .u64 k.2.1)).setCell ⟨g, x * 4 + 2, none⟩ (.int .i64 k.2.2)) H (.slice (some ⟨g, 0, none⟩) s.m cap) (s.setK x k) := by
  have h2 := ((h.set hne hx (c := 0) (by omega) (updR_k0 s x k.1)).set hne hx (c := 1) (by omega) (updR_k1 _ x k.2.1)).set hne hx (c := 2) (by omega) (updR_k2 _ x k.2.2)
  exact h2.same ⟨rfl, by simp only [up_same, up_up]; rfl, rfl⟩
/-- An entry is cleared. -/
theorem RefV.cleared {x : Nat} (h : RefV B w H (.slice (some ⟨g, 0, none⟩) s.m cap) s) (hne : g ≠ H) (hx : x < s.m) :
    RefV B ((((w.setCell ⟨g, x * 4, none⟩ (.int .u64 0)).setCell ⟨g, x * 4 + 1, none⟩ (.int .u64 0)).setCell ⟨g, x * 4 + 2, none⟩ (.int .i64 0)).setCell ⟨g, x * 4 + 3, none⟩ (.bool false)) H (.slice (some ⟨g, 0, none⟩) s.m cap) (s.clear x) := by
  have h2 := RefV.set (s := s.setK x (0, 0, 0)) (h.keyed hne hx (0, 0, 0)) hne hx (c := 3) (by omega) (updR_th _ x false)
  exact h2.same ⟨rfl, rfl, rfl⟩
end Go.Proofs.Ythdbiablpkeagaa
