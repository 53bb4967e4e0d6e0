/- Contracts of container/heap's Push, Pop, Fix, Remove over chapter 10's clock. -/
import Derived.Test.YtkplhobiciddoaaTim6
namespace Go.Proofs.Ytkplhobiciddoaa
open Go.RowKit
theorem Post.of {zn : Value} {B c b n : Nat} {w w' : World} {v : Value} {l : List Al} (g : Good B w' c zn v b l n) (t : Tur (Foot c v (some b)) w w') : Post B w w' c zn v b l n := ⟨v, g, t, fun _ h => .inl h⟩
theorem Post.next {zn : Value} {B c b n' : Nat} {w w1 w2 : World} {v v1 : Value} {l : List Al} (t : Tur (Foot c v (some b)) w w1) (f : ∀ k, Foot c v1 (some b) k → Foot c v (some b) k ∨ w.heap.size ≤ k) (h : Post B w1 w2 c zn v1 b l n') : Post B w w2 c zn v b l n' := by
  obtain ⟨v2, g2, t2, f2⟩ := h
  refine ⟨v2, g2, t.trans t2 f, fun k hk => ?_⟩
  rcases f2 k hk with h1 | h1
  · exact f k h1
  · right; have := t.size; omega
theorem len_g {zn : Value} (B c n b : Nat) (v : Value) (l : List Al) (w : World) (h : Good B w c zn v b l n) :
    Calls Try.prog 40 #[.pointer (some ⟨c, 1, none⟩)] w fun e w' => e = .returned (.int .i64 l.length) ∧ Below w.heap.size w w' := by
  obtain ⟨I, h1, -⟩ := h
  exact len_any B c n v (some b) l I w h1
set_option maxRecDepth 20000 in
set_option maxHeartbeats 1000000 in
theorem hpush_g {zn : Value} (B c n b : Nat) (v : Value) (l : List Al) (s : ByteArray) (t : Int) (w : World) (h : Good B w c zn v b l n) (hn : n ≤ 99999) (hm : l.length ≤ 99999) (hs : s.size ≤ maxLen) (hnew : ∀ j, j < l.length → (el l j).1 ≠ s) :
    Calls Try.prog 39 #[.iface 86 (.agg #[.pointer (some ⟨c, 1, none⟩)]), .iface 71 (.agg #[.string s, .int .i64 t])] w fun e w' => e = .returned (.tuple #[]) ∧ Post B w w' c zn v b (pushL l (s, t)) (n + 1) := by
  have mP := m_push c
  have mL := m_len c
  have HG := hid h
  have HN : Hid (n ≤ 99999) := hn
  have HM : Hid (l.length ≤ 99999) := hm
  have HS := hid hs
  have HW := hid hnew
  have hlen : Hid ((l ++ [((s, t) : Al)]).length = l.length + 1) := by unfold Hid; simp
  have iw : IntKind.i64.wrap (((l.length + 1 : Nat) : Int) - 1) = (l.length : Int) := by rw [show ((l.length + 1 : Nat) : Int) - 1 = l.length by omega]; exact IntWalk.i64_in _ (by omega)
  have iw2 : IntKind.i64.wrap ((l.length : Int) + 1 - 1) = (l.length : Int) := by rw [show (l.length : Int) + 1 - 1 = l.length by omega]; exact IntWalk.i64_in _ (by omega)
  have iw3 : IntKind.i64.wrap (l.length : Int) = (l.length : Int) := IntWalk.i64_in _ (by omega)
  clear h hn hm hs hnew
  go_enter Try.func39, Try.ntmps39
  go_wp2_with fail
  refine (push_o B c n b v l s t w HG.out (by have := HN.out; omega) (by have := HM.out; omega) HS.out HW.out).mono ?_
  rintro e w1 ⟨rfl, v1, g1, t1, f1⟩
  have G1 := hid g1
  have T1 := hid t1
  have F1 := hid f1
  clear g1 t1 f1
  go_wp2_with fail
  refine (len_g B c (n + 1) b v1 _ w1 G1.out).mono ?_
  rintro e w2 ⟨rfl, hb2⟩
  have HB2 := hid hb2
  clear hb2
  rw [hlen.out]
  go_wp2_with fail
  refine (up_g B c (n + 1) b v1 (l ++ [(s, t)]) l.length w2 (G1.out.below HB2.out) (by have := HN.out; omega) (by have := HM.out; have := hlen.out; omega) (by have := hlen.out; omega)).mono ?_
  rintro e w3 ⟨rfl, g3, t3⟩
  go_wp2
  go_end0
  exact ⟨rfl, Post.next (T1.out.trans (Tur.of_below (F := Foot c v (some b)) HB2.out) (fun _ h => .inl h)) F1.out (Post.of g3 t3)⟩
set_option maxRecDepth 20000 in
set_option maxHeartbeats 1000000 in
theorem hpop_g {zn : Value} (B c n b : Nat) (v : Value) (l : List Al) (w : World) (h : Good B w c zn v b l n) (hn : n ≤ 100000) (hm : l.length ≤ 100000) (h0 : 0 < l.length) :
    Calls Try.prog 41 #[.iface 86 (.agg #[.pointer (some ⟨c, 1, none⟩)])] w fun e w' => e = .returned (.iface 71 (.agg #[.string (el (popL l) (l.length - 1)).1, .int .i64 (el (popL l) (l.length - 1)).2])) ∧ Post B w w' c zn v b ((popL l).take (l.length - 1)) (n - 1) := by
  have mL := m_len c
  have mS := m_swap c
  have mP := m_pop c
  obtain ⟨k, hk⟩ : ∃ k, k = l.length - 1 := ⟨_, rfl⟩
  rw [← hk]
  have HG := hid h
  have HN : Hid (n ≤ 100000) := hn
  have HM : Hid (l.length ≤ 100000) := hm
  have HK : Hid (k = l.length - 1 ∧ k < l.length) := ⟨hk, by omega⟩
  have iw : IntKind.i64.wrap ((l.length : Int) - 1) = (k : Int) := by rw [show (l.length : Int) - 1 = k by omega]; exact IntWalk.i64_in _ (by omega)
  have hsl : Hid ((sw l 0 k).length = l.length) := sw_length _ _ _
  have hpl : Hid ((popL l).length = l.length) := by unfold Hid popL; rw [downL_length (by rw [sw_length]; omega), sw_length]
  have hpd : Hid ((downL (sw l 0 k) 0 k).1 = popL l) := by unfold Hid popL; rw [← hk]
  clear h hn hm hk
  go_enter Try.func41, Try.ntmps41
  go_wp2_with fail
  refine (len_g B c n b v l w HG.out).mono ?_
  rintro e w1 ⟨rfl, hb1⟩
  have G1 := hid (HG.out.below hb1)
  have HB1 := hid hb1
  clear hb1
  go_wp2_with fail
  refine (swap_g B c n b v l 0 k w1 G1.out HN.out HM.out h0 HK.out.2).mono ?_
  rintro e w2 ⟨rfl, g2, t2⟩
  have G2 := hid g2
  have T2 := hid ((Tur.of_below (F := Foot c v (some b)) HB1.out).then t2)
  clear g2 t2
  go_wp2_with fail
  refine (down_g B c n b v (sw l 0 k) 0 k w2 G2.out HN.out (by rw [hsl.out]; exact HM.out) (by rw [hsl.out]; exact Nat.le_of_lt HK.out.2) (Nat.zero_le _)).mono ?_
  rintro e w3 ⟨rfl, g3, t3⟩
  rw [hpd.out] at g3
  have G3 := hid g3
  have T3 := hid (T2.out.then t3)
  clear g3 t3
  go_wp2_with fail
  refine (pop_o B c n b v (popL l) w3 G3.out (by rw [hpl.out]; exact HM.out) (by rw [hpl.out]; exact h0)).mono ?_
  rintro e w4 ⟨rfl, h4⟩
  have H4 := hid h4
  clear h4
  rw [hpl.out, ← HK.out.1]
  go_wp2
  go_ret
  refine ⟨rfl, Post.next T3.out (fun _ h => .inl h) ?_⟩
  have h4 := H4.out
  rw [hpl.out, ← HK.out.1] at h4
  exact h4
set_option maxRecDepth 20000 in
set_option maxHeartbeats 1000000 in
theorem hfix_g {zn : Value} (B c n b : Nat) (v : Value) (l : List Al) (i : Nat) (w : World) (h : Good B w c zn v b l n) (hn : n ≤ 100000) (hm : l.length ≤ 100000) (hi : i < l.length) :
    Calls Try.prog 38 #[.iface 86 (.agg #[.pointer (some ⟨c, 1, none⟩)]), .int .i64 i] w fun e w' => e = .returned (.tuple #[]) ∧ Post B w w' c zn v b (fixL l i) n := by
  have mL := m_len c
  have HG := hid h
  have HN : Hid (n ≤ 100000) := hn
  have HM : Hid (l.length ≤ 100000) := hm
  have HI : Hid (i < l.length) := hi
  have hdl : Hid ((downL l i l.length).1.length = l.length) := downL_length (Nat.le_refl _)
  clear h hn hm hi
  go_enter Try.func38, Try.ntmps38
  go_wp2_with fail
  refine (len_g B c n b v l w HG.out).mono ?_
  rintro e w1 ⟨rfl, hb1⟩
  have G1 := hid (HG.out.below hb1)
  have HB1 := hid hb1
  clear hb1
  go_wp2_with fail
  refine (down_g B c n b v l i l.length w1 G1.out HN.out HM.out (Nat.le_refl _) (Nat.le_of_lt HI.out)).mono ?_
  rintro e w3 ⟨rfl, g3, t3⟩
  have G3 := hid g3
  have T3 := hid ((Tur.of_below (F := Foot c v (some b)) HB1.out).then t3)
  clear g3 t3
  by_cases hc : i < (downL l i l.length).2
  · rw [decide_eq_true hc]
    have HC := hid hc
    clear hc
    go_wp2
    go_end0
    refine ⟨rfl, Post.of ?_ T3.out⟩
    unfold fixL
    rw [if_pos HC.out]
    exact G3.out
  · rw [decide_eq_false hc]
    have HC := hid hc
    clear hc
    go_wp2_with fail
    refine (up_g B c n b v (downL l i l.length).1 i w3 G3.out HN.out (by rw [hdl.out]; exact HM.out) (by rw [hdl.out]; exact HI.out)).mono ?_
    rintro e w4 ⟨rfl, g4, t4⟩
    go_wp2
    go_end0
    refine ⟨rfl, Post.of ?_ (T3.out.then t4)⟩
    unfold fixL
    rw [if_neg HC.out]
    exact g4
end Go.Proofs.Ytkplhobiciddoaa
