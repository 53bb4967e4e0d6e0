/- Contract of container/heap's up over chapter 10's clock. -/
import Derived.Test.YtkplhobiciddoaaTim2
namespace Go.Proofs.Ytkplhobiciddoaa
open Go.RowKit
/-- The clock at block c, its map at b: alarms l, the map says where each stands. -/
def Good (B : Nat) (w : World) (c : Nat) (zn : Value) (v : Value) (b : Nat) (l : List Al) (n : Nat) : Prop := ∃ I, ClkS B w c zn v (some b) l n I ∧ Idx l I ∧ (∀ x ∈ l, x.1.size ≤ maxLen) ∧ B ≤ w.heap.size
theorem Good.below {zn : Value} {B c b n : Nat} {w w' : World} {v : Value} {l : List Al} (h : Good B w c zn v b l n) (hb : Below w.heap.size w w') : Good B w' c zn v b l n := by
  obtain ⟨I, h1, h2, h3, h4⟩ := h
  exact ⟨I, h1.below hb, h2, h3, Nat.le_trans h4 hb.size⟩
theorem swap_g {zn : Value} (B c n b : Nat) (v : Value) (l : List Al) (i j : Nat) (w : World) (h : Good B w c zn v b l n) (hn : n ≤ 100000) (hm : l.length ≤ 100000) (hi : i < l.length) (hj : j < l.length) :
    Calls Try.prog 108 #[.agg #[.pointer (some ⟨c, 1, none⟩)], .int .i64 i, .int .i64 j] w fun e w' => e = .returned (.tuple #[]) ∧ Good B w' c zn v b (sw l i j) n ∧ Tur (Foot c v (some b)) w w' := by
  obtain ⟨I, h1, h2, h3, h4⟩ := h
  refine (swap_any B c n b v l I i j w h4 h1 h2 h3 hn hm hi hj).mono ?_
  rintro e w' ⟨rfl, I', g1, g2, g3⟩
  exact ⟨rfl, ⟨I', g1, g2, fun x hx => h3 x ((sw_perm hi hj).mem_iff.1 hx), Nat.le_trans h4 g3.size⟩, g3⟩
theorem less_g {zn : Value} (B c n b : Nat) (v : Value) (l : List Al) (i j : Nat) (w : World) (h : Good B w c zn v b l n) (hm : l.length ≤ 100000) (hi : i < l.length) (hj : j < l.length) :
    Calls Try.prog 105 #[.agg #[.pointer (some ⟨c, 1, none⟩)], .int .i64 i, .int .i64 j] w fun e w' => e = .returned (.bool (ltA (el l i) (el l j))) ∧ Below w.heap.size w w' := by
  obtain ⟨I, h1, -⟩ := h
  exact less_any B c n v (some b) l I i j w h1 hm hi hj
theorem m_less (c : Nat) (w : World) : (method 252 86 (.agg #[.pointer (some ⟨c, 1, none⟩)]) "Less").run Try.prog w = .ok (105, .agg #[.pointer (some ⟨c, 1, none⟩)]) w := by kernel_rfl
theorem m_swap (c : Nat) (w : World) : (method 252 86 (.agg #[.pointer (some ⟨c, 1, none⟩)]) "Swap").run Try.prog w = .ok (108, .agg #[.pointer (some ⟨c, 1, none⟩)]) w := by kernel_rfl
theorem m_push (c : Nat) (w : World) : (method 252 86 (.agg #[.pointer (some ⟨c, 1, none⟩)]) "Push").run Try.prog w = .ok (107, .agg #[.pointer (some ⟨c, 1, none⟩)]) w := by kernel_rfl
theorem m_pop (c : Nat) (w : World) : (method 252 86 (.agg #[.pointer (some ⟨c, 1, none⟩)]) "Pop").run Try.prog w = .ok (106, .agg #[.pointer (some ⟨c, 1, none⟩)]) w := by kernel_rfl
theorem m_len (c : Nat) (w : World) : (method 252 86 (.agg #[.pointer (some ⟨c, 1, none⟩)]) "Len").run Try.prog w = .ok (40, .pointer (some ⟨c, 1, none⟩)) w := by kernel_rfl
set_option maxHeartbeats 2000000 in
theorem up_g {zn : Value} (B c n b : Nat) (v : Value) (l : List Al) (j : Nat) (w : World) (h : Good B w c zn v b l n) (hn : n ≤ 100000) (hm : l.length ≤ 100000) (hj : j < l.length) :
    Calls Try.prog 53 #[.iface 86 (.agg #[.pointer (some ⟨c, 1, none⟩)]), .int .i64 j] w fun e w' => e = .returned (.tuple #[]) ∧ Good B w' c zn v b (upL l j) n ∧ Tur (Foot c v (some b)) w w' := by
  have mL := m_less c
  have mS := m_swap c
  have HG := hid h
  have HM : Hid (l.length ≤ 100000) := hm
  have HN : Hid (n ≤ 100000) := hn
  have HJ : Hid (j < l.length) := hj
  clear h hm hn hj
  go_enter Try.func53, Try.ntmps53
  go_wp2
  go_loopw [1] (fun i wr => ∃ (k : Nat) (l' : List Al), i = .int .i64 k ∧ Hid (k < l'.length ∧ l'.length = l.length ∧ Good B wr c zn v b l' n ∧ upL l' k = upL l j ∧ Tur (Foot c v (some b)) w wr)) (fun i _ => (intOf i).toNat)
  case atStart => exact ⟨j, l, rfl, HJ.out, rfl, HG.out, rfl, Tur.refl _ _⟩
  case round =>
    obtain ⟨k, l', rfl, hh⟩ := hrel
    rcases k with _ | k
    · go_wp2
      go_end0
      obtain ⟨h1, h2, h3, h4, h5⟩ := hh.out
      refine ⟨rfl, ?_, h5⟩
      rw [← h4, show upL l' 0 = l' by unfold upL; rw [if_pos rfl]]
      exact h3
    · obtain ⟨p, hp⟩ : ∃ p, p = k / 2 := ⟨_, rfl⟩
      have hkl : k + 1 < l'.length := hh.out.1
      have hlen : l'.length = l.length := hh.out.2.1
      have hgd := hid hh.out.2.2.1
      have hm' := HM.out
      have hml : l'.length ≤ 100000 := by omega
      have HML := hid hml
      have hkc : (k : Int) ≤ 100000 := by omega
      have iw1 : IntKind.i64.wrap ((k : Int) + 1 - 1) = (k : Int) := by rw [show (k : Int) + 1 - 1 = k by omega]; exact IntWalk.i64_in _ (by omega)
      have iw0 : IntKind.i64.wrap (k : Int) = (k : Int) := IntWalk.i64_in _ (by omega)
      have iw2 : (k : Int).tdiv 2 = (p : Int) := by rw [hp, Int.tdiv_eq_ediv_of_nonneg (by omega)]; omega
      have iw3 : IntKind.i64.wrap (p : Int) = (p : Int) := IntWalk.i64_in _ (by omega)
      have ne1 : ¬ (p : Int) = (k : Int) + 1 := by omega
      have hpl : p < l'.length := by omega
      have hpk : Hid (p < k + 1 ∧ p = (k + 1 - 1) / 2) := by constructor <;> omega
      have HPL := hid hpl
      have HKL := hid hkl
      clear hp hm' hml
      go_wp2_with fail
      refine (less_g B c n b v l' (k + 1) p wr hgd.out HML.out HKL.out HPL.out).mono ?_
      rintro e w1 ⟨rfl, hb1⟩
      have g1 := hgd.out.below hb1
      have HB1 := hid hb1
      clear hb1
      obtain ⟨q, hq⟩ : ∃ q, q = ltA (el l' (k + 1)) (el l' p) := ⟨_, rfl⟩
      rw [← hq]
      have HQ := hid hq
      clear hq
      cases q with
      | false =>
        go_wp2
        go_end0
        obtain ⟨h1, h2, h3, h4, h5⟩ := hh.out
        refine ⟨rfl, ?_, h5.then (Tur.of_below HB1.out)⟩
        rw [← h4, show upL l' (k + 1) = l' by unfold upL; rw [if_neg (by omega), ← hpk.out.2, ← HQ.out, if_neg (by decide)]]
        exact g1
      | true =>
        go_wp2_with fail
        refine (swap_g B c n b v l' p (k + 1) w1 g1 HN.out HML.out HPL.out HKL.out).mono ?_
        rintro e w2 ⟨rfl, g2, t2⟩
        go_wp2
        go_roundw
        case rel =>
          obtain ⟨h1, h2, h3, h4, h5⟩ := hh.out
          refine ⟨p, sw l' p (k + 1), rfl, by rw [sw_length]; exact hpl, by rw [sw_length]; exact h2, g2, ?_, (h5.then (Tur.of_below HB1.out)).then t2⟩
          rw [← h4]
          conv => rhs; unfold upL
          rw [if_neg (by omega), ← hpk.out.2, ← HQ.out, if_pos rfl]
        case measure =>
          have := hpk.out.1
          simp [intOf]; omega
end Go.Proofs.Ytkplhobiciddoaa
