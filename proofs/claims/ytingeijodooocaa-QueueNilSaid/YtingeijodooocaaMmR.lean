/- Chapter 14's interval heap: Len, New, place, Remove. -/
import Derived.Test.YtingeijodooocaaMmS
namespace Go.Proofs.Ytingeijodooocaa
open Go.RowKit
variable {B H : Nat} {w w' : World} {va vk vs : Value} {S T : Mm}
theorem mlen_g (h : MmV B w H va vk vs S) : Calls Try.prog 34 #[.pointer (some ⟨H, 0, none⟩)] w fun e w' => e = .returned (.int .i64 S.n) ∧ w = w' := by
  obtain ⟨c0, -, -⟩ := h.head
  have hlH := h.ltH
  obtain ⟨A, cap, rfl⟩ := rowR_shape h.ra
  clear h
  go_enter Try.func34, Try.ntmps34
  go_wp2
  go_ret
  exact ⟨rfl, rfl⟩
theorem mplace_g {x p : Nat} (h : MmV B w H va vk vs S) (hl : Lnk S) (hx : x < S.m) (hs : S.s x = p + 1) :
    Calls Try.prog 52 #[.pointer (some ⟨H, 0, none⟩), .int .i64 x] w fun e w' => e = .returned (.int .i64 p) ∧ w = w' := by
  obtain ⟨q, g, cap, h1, h2, h3, c2, d⟩ := h.spot hl hx (by omega)
  obtain rfl : q = p := by omega
  have hlH := h.ltH
  have hnb : S.n ≤ 1000000 := Nat.le_trans hl.nb hl.mb
  have iw : IntKind.i64.wrap ((q : Int) + 1 - 1) = (q : Int) := by rw [show (q : Int) + 1 - 1 = q by omega]; exact IntWalk.i64_in _ (by omega)
  have iv : IntKind.i64.wrap (q : Int) = (q : Int) := IntWalk.i64_in _ (by omega)
  have hi : (x : Int) < (S.m : Int) := by omega
  have hi2 : ¬ (S.m : Int) ≤ (x : Int) := by omega
  have hi3 : ¬ (x : Int) < 0 := by omega
  clear h hl hx hs h1 h2 h3 hnb
  go_enter Try.func52, Try.ntmps52
  go_wp2
  go_ret
  exact ⟨rfl, rfl⟩
/-- A row is cut shorter. -/
theorem row_short {T : TypeId} {z n k g cap : Nat} {xs : List Value} (h : w.ownsRow B T z (.slice (some ⟨g, 0, none⟩) n cap) n xs) (hk : k ≤ n) : w.ownsRow B T z (.slice (some ⟨g, 0, none⟩) k cap) k (xs.take (k * z)) := by
  obtain ⟨h1, h2⟩ := h
  have hkz : k * z ≤ n * z := Nat.mul_le_mul_right z hk
  refine ⟨by rw [List.length_take]; omega, ?_⟩
  rcases h2 with ⟨q, -⟩ | ⟨g', cap', cur, e, a1, a2, a3, a4, a5, a6⟩
  · cases q
  · cases e
    exact .inr ⟨g, cap, cur, rfl, a1, a2, by omega, a4, a5, by rw [← a6, List.take_take]; congr 1; omega⟩
theorem li_take {α : Type} (e : Nat → α) {n k : Nat} (h : k ≤ n) : (li e n).take k = li e k := by
  unfold li
  rw [← List.map_take, List.take_range, Nat.min_eq_left h]
theorem flatI_take (l : List Nat) (k : Nat) : (flatR 1 intc l).take (k * 1) = flatR 1 intc (l.take k) := by
  unfold flatR
  rw [Nat.mul_one]
  have e : ∀ l : List Nat, (l.flatMap fun x => (List.range 1).map (intc x)) = l.map (fun x => intc x 0) := by
    intro l
    induction l with
    | nil => rfl
    | cons a t ih => rw [List.flatMap_cons, ih]; rfl
  rw [e, e, List.map_take]
theorem Ivl.less {L : Nat → Nat → Prop} {n : Nat} {e e' : Nat → Nat} (h : Ivl L (n + 1) e) (hk : ∀ k, k < n → e' k = e k) : Ivl L n e' := by
  refine ⟨fun a ha => ?_, fun j hj hjn => ?_, fun j hj hjn => ?_⟩
  · rw [hk _ (by omega), hk _ ha]; exact h.pr a (by omega)
  · unfold LoAt
    have := lowp_lt hj
    rw [hk _ hjn, hk _ (by omega)]; exact h.lo j hj (by omega)
  · unfold HiAt
    have := lowp_lt hj
    rw [hk _ hjn, hk _ (by omega)]; exact h.hi j hj (by omega)
/-- The heap, one place shorter, and a handle that is gone. -/
def Mm.cut (S : Mm) (l x : Nat) : Mm := ⟨l, S.m, S.e, upf S.s x 0, S.k⟩
theorem Lnk.cut {l x : Nat} (h : Lnk S) (hn : S.n = l + 1) (hx : S.e l = x) : Lnk (S.cut l x) := by
  have hnb := h.nb
  have al := h.at_ l (by omega)
  refine ⟨h.mb, by show l ≤ S.m; omega, fun i hi => ?_, fun y hy hs => ?_⟩
  · have hi' : i < l := hi
    have ai := h.at_ i (by omega)
    have hne : S.e i ≠ x := fun e => by
      have := h.inj i l (by omega) (by omega) (by rw [e, hx])
      omega
    exact ⟨ai.1, by show upf S.s x 0 (S.e i) = i + 1; unfold upf; rw [if_neg hne]; exact ai.2⟩
  · have hs' : upf S.s x 0 y ≠ 0 := hs
    have hyx : y ≠ x := fun e => hs' (by unfold upf; rw [if_pos e])
    have e1 : upf S.s x 0 y = S.s y := by unfold upf; rw [if_neg hyx]
    rw [e1] at hs'
    obtain ⟨g1, g2⟩ := h.gone y hy hs'
    show upf S.s x 0 y ≤ l ∧ S.e (upf S.s x 0 y - 1) = y
    rw [e1]
    refine ⟨?_, g2⟩
    have : S.s y - 1 ≠ l := fun e => by rw [e, hx] at g2; exact hyx g2.symm
    omega
theorem MmV.cutE {l g cap : Nat} (h : MmV B w H (.slice (some ⟨g, 0, none⟩) S.n cap) vk vs S) (hl : l ≤ S.n) :
    MmV B (w.setCell ⟨H, 0, none⟩ (.slice (some ⟨g, 0, none⟩) l cap)) H (.slice (some ⟨g, 0, none⟩) l cap) vk vs ⟨l, S.m, S.e, S.s, S.k⟩ := by
  have ho : ∀ b, b ≠ H → (w.setCell ⟨H, 0, none⟩ (.slice (some ⟨g, 0, none⟩) l cap)).heap[b]? = w.heap[b]? := fun b hb => heap_setCell_other w _ b _ (fun e => hb e)
  refine ⟨h.hB, ?_, ?_, rowR_kept h.rk fun b q => ho b (h.hH b (.inr (.inl q))), rowR_kept h.rs fun b q => ho b (h.hH b (.inr (.inr q))), h.hH, h.ap, h.aq⟩
  · exact at_of ⟨_, heap_setCell_same w H 0 _ _ _ h.blk, by simp⟩
  · have h1 := row_short h.ra hl
    rw [flatI_take, li_take _ hl] at h1
    exact rowR_kept h1 fun b q => ho b (h.hH b (.inl q))
set_option maxRecDepth 20000 in
set_option maxHeartbeats 8000000 in
theorem mremove_g {x : Nat} (h : MmV B w H va vk vs S) (hl : Lnk S) (iv : Ivl (LtM S.k) S.n S.e) (hx : x < S.m) (hs : S.s x ≠ 0) :
    Calls Try.prog 33 #[.pointer (some ⟨H, 0, none⟩), .int .i64 x] w fun e w' => e = .returned (.int .i64 0) ∧ ∃ va' T, MmV B w' H va' vk vs T ∧ Lnk T ∧ Ivl (LtM T.k) T.n T.e ∧ T.n + 1 = S.n ∧ T.m = S.m ∧ T.k = S.k ∧ (∀ y, T.s y = 0 ↔ (S.s y = 0 ∨ y = x)) ∧ va'.ownBlock = va.ownBlock ∧ Tur (FootM H va vk vs) w w' := by
  obtain ⟨p, hp, hpn, hpe⟩ := hl.place hx hs
  obtain ⟨l, hln⟩ : ∃ l, S.n = l + 1 := ⟨S.n - 1, by omega⟩
  have hnb : S.n ≤ 1000000 := Nat.le_trans hl.nb hl.mb
  obtain ⟨g, cap, hva, hBg, hgl, -, -⟩ := rowI_cells h.ra (by omega)
  subst hva
  have c0 := h.head.1
  have hlH := h.ltH
  have HPl : Hid (∀ W, Below w.heap.size w W → Calls Try.prog 52 #[.pointer (some ⟨H, 0, none⟩), .int .i64 x] W fun e w' => e = .returned (.int .i64 p) ∧ W = w') := fun W hb => mplace_g (h.below hb) hl hx hp
  have hpi : ¬ (p : Int) < 0 := by omega
  have iw : IntKind.i64.wrap ((S.n : Int) - 1) = (l : Int) := by rw [hln, show ((l + 1 : Nat) : Int) - 1 = l by omega]; exact IntWalk.i64_in _ (by omega)
  have iv2 : IntKind.i64.wrap (l : Int) = (l : Int) := IntWalk.i64_in _ (by omega)
  have HH := hid h
  have HL := hid hl
  have HIV := hid iv
  have HX : Hid (x < S.m ∧ S.e p = x ∧ p < S.n ∧ S.n = l + 1 ∧ S.s x = p + 1 ∧ S.n ≤ 1000000) := ⟨hx, hpe, hpn, hln, hp, hnb⟩
  clear h hl iv hx hs hp hpn hpe hnb hln
  go_enter Try.func33, Try.ntmps33
  go_wp2_with fail
  refine (HPl.out _ (Below.refl _ _)).mono ?_
  rintro e w1 ⟨rfl, rfl⟩
  go_wp2_with fail
  refine (mswap_g HH.out HL.out (i := p) (j := l) HX.out.2.2.1 (by have := HX.out; omega)).mono ?_
  rintro e w2 ⟨rfl, C2, T2⟩
  have L2 := HL.out.sw (i := p) (j := l) HX.out.2.2.1 (by have := HX.out; omega)
  have K2 := HL.out.kin (i := p) (j := l) HX.out.2.2.1 (by have := HX.out; omega)
  obtain ⟨U, hU⟩ : ∃ U, U = S.sw p l := ⟨_, rfl⟩
  have hUe : U.e = swf S.e p l := by rw [hU]; rfl
  have hUn : U.n = S.n := by rw [hU]; rfl
  rw [← hU] at C2 L2 K2
  have C2' : MmV B w2 H (.slice (some ⟨g, 0, none⟩) U.n cap) vk vs U := by rw [hUn]; exact C2
  have C3 := C2'.cutE (l := l) (by have := HX.out; omega)
  obtain ⟨g2, cap2, hvs, -, hgl2, hgf2, hcs⟩ := rowI_cells C2.rs (by rw [K2.m]; have := HX.out; omega)
  rw [K2.m] at hvs hcs
  subst hvs
  have hg2H : g2 ≠ H := C2.hH g2 (.inr (.inr rfl))
  have hUm : U.m = S.m := K2.m
  have C3' := C3
  rw [hUm] at C3'
  have C4 := MmV.setS (S := ⟨l, S.m, U.e, U.s, U.k⟩) (g := g2) (cap := cap2) (i := x) C3' HX.out.1 0
  have hfH : ∀ o, w2.frozen? ⟨H, o, none⟩ = false := fun o => blk_free C2.blk o
  have hd := C2.head
  have d0 := hd.1
  have d2 := hd.2.2
  have dx := hcs x HX.out.1
  have hcap : l ≤ cap ∧ cap ≤ maxLen := by
    obtain ⟨-, q | ⟨g', cap', cur, e, -, -, a3, a4, -⟩⟩ := C2'.ra
    · cases q.1
    · injection e with e1 e2 e3
      have := HX.out
      have hUn' := hUn
      subst e3
      exact ⟨by omega, a4⟩
  have hl2 := C2.ltH
  have hci : (l : Int) ≤ (cap : Int) := by omega
  have hcj : ((l : Nat) : Int) ≤ (S.n : Int) := by have := HX.out; omega
  have F1 : FootM H (.slice (some ⟨g, 0, none⟩) S.n cap) vk (.slice (some ⟨g2, 0, none⟩) S.m cap2) H := .inl rfl
  have F2 : FootM H (.slice (some ⟨g, 0, none⟩) S.n cap) vk (.slice (some ⟨g2, 0, none⟩) S.m cap2) g2 := .inr (.inr (.inr rfl))
  have T4 : Tur (FootM H (.slice (some ⟨g, 0, none⟩) S.n cap) vk (.slice (some ⟨g2, 0, none⟩) S.m cap2)) w ((w2.setCell ⟨H, 0, none⟩ (.slice (some ⟨g, 0, none⟩) l cap)).setCell ⟨g2, x, none⟩ (.int .i64 ((0 : Nat) : Int))) :=
    (T2.then (Tur.set _ (.inl F1))).then (Tur.set _ (.inl F2))
  have L4 : Lnk (U.cut l x) := L2.cut (by rw [hUn]; exact HX.out.2.2.2.1) (by rw [hUe, swf_r]; exact HX.out.2.1)
  have HC4 := hid C4
  have HT4 := hid T4
  have HL4 := hid L4
  have HK2 := hid K2
  have HU := hid (show U.e = swf S.e p l ∧ U.n = S.n ∧ U.k = S.k ∧ ∀ y, U.s y = 0 ↔ S.s y = 0 from ⟨hUe, hUn, K2.k, K2.live⟩)
  have hpl : Hid (p ≤ l) := by have := HX.out; show p ≤ l; omega
  clear C2 C2' C3 C3' C4 T2 T4 L2 L4 K2 hU hUe hUn hcs hd HPl c0
  have hxm : (x : Int) < (S.m : Int) := by have := HX.out.1; omega
  have hl0 : ¬ (l : Int) < 0 := by omega
  go_upto_region 8 with fail
  refine wp_name ?_
  intro w4 hw4
  have HM : Hid (MmV B w4 H (.slice (some ⟨g, 0, none⟩) l cap) vk (.slice (some ⟨g2, 0, none⟩) S.m cap2) (U.cut l x) ∧ Tur (FootM H (.slice (some ⟨g, 0, none⟩) S.n cap) vk (.slice (some ⟨g2, 0, none⟩) S.m cap2)) w w4) := by
    rw [hw4]
    refine ⟨?_, HT4.out⟩
    have e : U.cut l x = ⟨l, S.m, U.e, upf U.s x 0, U.k⟩ := by unfold Mm.cut; rw [hUm]
    rw [e]
    exact HC4.out
  clear hw4 HC4 HT4 d0 d2 dx hgf2 hfH
  have hlive : ∀ T : Mm, (∀ y, T.s y = 0 ↔ (U.cut l x).s y = 0) → ∀ y, T.s y = 0 ↔ (S.s y = 0 ∨ y = x) := fun T ht y => by
    rw [ht y]
    show upf U.s x 0 y = 0 ↔ _
    unfold upf
    by_cases q : y = x
    · rw [if_pos q]; exact ⟨fun _ => .inr q, fun _ => rfl⟩
    · rw [if_neg q, HU.out.2.2.2 y]
      exact ⟨fun z => .inl z, fun z => z.resolve_right q⟩
  have HLV := hid hlive
  clear hlive
  have ive : Ivl (LtM S.k) (l + 1) S.e := by have := HIV.out; rw [HX.out.2.2.2.1] at this; exact this
  by_cases q : p < l
  · have q1 : (p : Int) < (l : Int) := by omega
    have hole : Hole (LtM (U.cut l x).k) (U.cut l x).n (U.cut l x).e p := by
      show Hole (LtM U.k) l U.e p
      rw [HU.out.2.2.1]
      refine ive.hole (sto_ltM _) q (fun k hk hkp => ?_)
      rw [HU.out.1, swf_o _ hkp (by omega)]
    have HO := hid hole
    have HQ := hid q
    clear ive hole q
    go_wp2_with fail
    refine (msettle_g HM.out.1 HL4.out (i := p) HQ.out HO.out).mono ?_
    rintro e w5 ⟨rfl, T, C5, L5, K5, I5, T5⟩
    have H5 := hid (show MmV B w5 H (.slice (some ⟨g, 0, none⟩) l cap) vk (.slice (some ⟨g2, 0, none⟩) S.m cap2) T ∧ Lnk T ∧ Kin (U.cut l x) T ∧ Ivl (LtM (U.cut l x).k) (U.cut l x).n T.e from ⟨C5, L5, K5, I5⟩)
    have HT5 := hid T5
    clear C5 L5 K5 I5 T5
    go_wp2
    go_ret
    obtain ⟨c1, c2, c3, c4⟩ := H5.out
    have hk : T.k = S.k := by rw [c3.k]; exact HU.out.2.2.1
    have hn : T.n = l := c3.n
    refine ⟨rfl, _, T, c1, c2, ?_, by rw [hn]; exact HX.out.2.2.2.1.symm, by rw [c3.m]; exact HK2.out.m, hk, HLV.out T c3.live, rfl, HM.out.2.then (HT5.out.mono (fun b hb => .inl ?_))⟩
    · rw [c3.k, c3.n]; exact c4
    · exact hb
  · have hpl' : p = l := by have := hpl.out; omega
    have q1 : ¬ (p : Int) < (l : Int) := by omega
    have iv4 : Ivl (LtM U.k) l U.e := by
      rw [HU.out.2.2.1]
      refine ive.less (fun k hk => ?_)
      rw [HU.out.1, swf_o _ (by omega) (by omega)]
    have HI4 := hid iv4
    clear iv4 ive hpl' q
    go_wp2
    go_ret
    exact ⟨rfl, _, U.cut l x, HM.out.1, HL4.out, HI4.out, HX.out.2.2.2.1.symm, HK2.out.m, HU.out.2.2.1, HLV.out (U.cut l x) (fun _ => Iff.rfl), rfl, HM.out.2⟩
end Go.Proofs.Ytingeijodooocaa
