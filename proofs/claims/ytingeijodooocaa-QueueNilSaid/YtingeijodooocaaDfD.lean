/- Chapter 14's reference: Remove; before. -/
import Derived.Test.YtingeijodooocaaDfC
import Derived.Sort.Walk0
namespace Go.Proofs.Ytingeijodooocaa
open Go.RowKit
variable {B g n c : Nat} {w w' wr : World} {v : Value} {L M : List Wt} {A : Option Addr} {cap : Nat}
/-- What a writing call of the reference leaves. -/
def RN (B : Nat) (w w' : World) (g : Nat) (v : Value) (L : List Wt) : Prop :=
  ∃ v' n', RfQ B w' g v' n' L ∧ Tur (FootR g v) w w' ∧ ∀ k, FootR g v' k → FootR g v k ∨ w.heap.size ≤ k
theorem RfQ.same (h : RfQ B w g v n L) (hb : Below w.heap.size w w') : RN B w w' g v L := ⟨v, n, h.below hb, Tur.of_below hb, fun _ h => .inl h⟩
theorem run_neqS {a b : ByteArray} {r : Bool} (h : (a.toList == b.toList) = r) (W : World) : (binOp .neq 9 (.string a) (.string b)).run Try.prog W = .ok (.bool !r) W := by
  simp [binOp, Op.stringOp, h]
theorem run_lssS {a b : ByteArray} {r : Bool} (h : Op.bytesLess a.toList b.toList = r) (W : World) : (binOp .lss 9 (.string a) (.string b)).run Try.prog W = .ok (.bool r) W := by
  simp [binOp, Op.stringOp, h]
set_option maxHeartbeats 2000000 in
theorem rbef_g (x y : Wt) (w : World) :
    Calls Try.prog 42 #[.agg #[.int .i64 x.job, .string x.ten, .int .i64 x.pri], .agg #[.int .i64 y.job, .string y.ten, .int .i64 y.pri]] w fun e w' => e = .returned (.bool (decide (befQ x y))) ∧ Below w.heap.size w w' := by
  by_cases hk : x.ky = y.ky
  · have ht : x.ten = y.ten := ten_eq hk
    have heq : (y.ten.toList == y.ten.toList) = true := by simp
    by_cases hp : x.pri = y.pri
    · have e : (Ending.returned (.bool (decide (x.job < y.job)))) = .returned (.bool (decide (befQ x y))) := by
        congr 2
        rw [decide_eq_decide]
        unfold befQ
        constructor
        · intro h; exact .inr ⟨hk, .inr ⟨hp.symm, h⟩⟩
        · rintro (h | ⟨-, h | ⟨-, h⟩⟩)
          · rw [hk] at h; exact absurd h (lt_irr _)
          · omega
          · exact h
      rw [← e, ht, hp]
      have hpp : (y.pri == y.pri) = true := by simp
      clear e ht hp hk
      go_enter Try.func42, Try.ntmps42
      go_wp2
      go_ret
      exact ⟨rfl, (by repeat (first | with_reducible assumption | with_reducible exact Below.refl _ _ | with_reducible refine Below.drew ?_ | with_reducible refine below_drewN ?_ _ | with_reducible refine below_alloc ?_ _ | with_reducible refine Below.alloc ?_ (by first | omega | (simp; done) | (simp; omega)) _ | with_reducible refine Below.setCell ?_ (by first | omega | (simp; done) | (simp; omega)) _ | with_reducible refine below_setRow ?_ (by first | omega | (simp; done) | (simp; omega)) _))⟩
    · have e : (Ending.returned (.bool (decide (y.pri < x.pri)))) = .returned (.bool (decide (befQ x y))) := by
        congr 2
        rw [decide_eq_decide]
        unfold befQ
        constructor
        · intro h; exact .inr ⟨hk, .inl h⟩
        · rintro (h | ⟨-, h | ⟨h, -⟩⟩)
          · rw [hk] at h; exact absurd h (lt_irr _)
          · exact h
          · exact absurd h.symm hp
      rw [← e, ht]
      clear e ht hk
      go_enter Try.func42, Try.ntmps42
      go_wp2
      go_ret
      exact ⟨rfl, (by repeat (first | with_reducible assumption | with_reducible exact Below.refl _ _ | with_reducible refine Below.drew ?_ | with_reducible refine below_drewN ?_ _ | with_reducible refine below_alloc ?_ _ | with_reducible refine Below.alloc ?_ (by first | omega | (simp; done) | (simp; omega)) _ | with_reducible refine Below.setCell ?_ (by first | omega | (simp; done) | (simp; omega)) _ | with_reducible refine below_setRow ?_ (by first | omega | (simp; done) | (simp; omega)) _))⟩
  · have heq : (x.ten.toList == y.ten.toList) = false := by
      rw [beq_eq_false_iff_ne]
      intro e
      exact hk (by unfold Wt.ky; simpa [Go.Lib.toList_data] using e)
    have e : (Ending.returned (.bool (Op.bytesLess x.ten.toList y.ten.toList))) = .returned (.bool (decide (befQ x y))) := by
      rw [bytesLess_eq, Go.Lib.toList_data, Go.Lib.toList_data]
      congr 2
      rw [decide_eq_decide]
      unfold befQ
      constructor
      · intro h; exact .inl h
      · rintro (h | ⟨h, -⟩)
        · exact h
        · exact absurd h hk
    rw [← e]
    clear e hk
    go_enter Try.func42, Try.ntmps42
    go_wp2
    go_ret
    exact ⟨rfl, (by repeat (first | with_reducible assumption | with_reducible exact Below.refl _ _ | with_reducible refine Below.drew ?_ | with_reducible refine below_drewN ?_ _ | with_reducible refine below_alloc ?_ _ | with_reducible refine Below.alloc ?_ (by first | omega | (simp; done) | (simp; omega)) _ | with_reducible refine Below.setCell ?_ (by first | omega | (simp; done) | (simp; omega)) _ | with_reducible refine below_setRow ?_ (by first | omega | (simp; done) | (simp; omega)) _))⟩
set_option maxRecDepth 20000 in
set_option maxHeartbeats 4000000 in
theorem rrem_g (h : RfQ B w g v n L) (hs : SrtQ L) (hn : n ≤ 1000) (j : Int) :
    Calls Try.prog 35 #[.pointer (some ⟨g, 0, none⟩), .int .i64 j] w fun e w' => e = .returned (.int .i64 (remE L j)) ∧ RN B w w' g v (delQ j L) := by
  have HH := hid h
  have HL := hid h.len
  have HN := hid hn
  have HSR := hid hs
  have hnb : (n : Int) ≤ 1000 := by omega
  have hcall := rfind_g h hn j
  have HV := hid h
  obtain ⟨A, cap, rfl⟩ := rowR_shape h.row
  clear h hn hs
  go_enter Try.func35, Try.ntmps35
  go_wp2_with fail
  refine hcall.mono ?_
  rintro e w1 ⟨⟨r, rfl, hp⟩, hb1⟩
  have HB1 := hid hb1
  clear hcall hb1
  rcases hp with ⟨hf, rfl⟩ | ⟨k, x, hk, hxj, hf, rfl⟩
  · have FIN : Hid (remE L j = 3 ∧ RN B w w1 g (.slice A n cap) (delQ j L)) := by
      refine ⟨by unfold remE; rw [hf]; rfl, ?_⟩
      rw [del_no (fnd_none.1 hf)]
      exact HH.out.same HB1.out
    clear hf
    go_wp2
    go_ret
    exact ⟨by rw [FIN.out.1]; rfl, FIN.out.2⟩
  · subst hxj
    have h1 := HH.out.below HB1.out
    obtain ⟨b, cap', e, hl, hf1, -, -, -⟩ := HH.out.elem HB1.out hk
    injection e with e1 e2 e3
    subst e1 e3
    have hkn := (List.getElem?_eq_some_iff.1 hk).1
    have hcap : n ≤ cap := by
      obtain ⟨-, ⟨h3, h4⟩ | ⟨g', cap', cur, h3, -, -, hle, -⟩⟩ := h1.row
      · cases h3
      · injection h3 with _ e1 e2; omega
    have hs1 : SlG 3 fW w1 (some ⟨b, 0, none⟩) n L := SlG.of_row (by omega) h1.row
    obtain ⟨A3, c3, w3, happ3, hown3, hg3, hat3, hb3⟩ := rowR_src (c2 := cap) (n := 0) (cap := 0) (A := none) (l := []) (f := fW) recR (by omega) fW_one (World.ownsRow_nil w1 w1.heap.size _ _) (hs1.take (k := k) (by have := HL.out; omega)) (by have := HN.out; have := HL.out; omega) (by have := HN.out; have := HL.out; omega) (Nat.le_refl _)
    have hs3 := hs1.below hb3
    rw [Nat.zero_add] at happ3 hown3
    rw [List.nil_append] at hown3
    have hb13 : Below w1.heap.size w1 w3 := hb3
    have H1 := hid h1
    have HK := hid hk
    have HKN : Hid (k + 1 ≤ n ∧ n ≤ cap) := by have := HL.out; exact ⟨by omega, hcap⟩
    have HFR : Hid (remE L x.job = 0 ∧ delQ x.job L = L.take k ++ L.drop (k + 1)) := ⟨by unfold remE; rw [hf]; rfl, del_at HSR.out.jb hk⟩
    have HDONE : Hid (∀ (A4 : Option Addr) (c4 N' : Nat) (w4 : World), w4.ownsRow w1.heap.size 56 3 (.slice A4 N' c4) N' (flatR 3 fW (L.take k ++ L.drop (k + 1))) → Below w1.heap.size w1 w4 → RN B w (w4.setCell ⟨g, 0, none⟩ (.slice A4 N' c4)) g (.slice (some ⟨b, 0, none⟩) n cap) (delQ x.job L)) := fun A4 c4 N' w4 hr hb => by
      rw [HFR.out.2]
      have hg1 := H1.out.ltg
      have hne : ∀ q, (Value.slice A4 N' c4).ownBlock = some q → q ≠ g := fun q hq e => by have := (hr.lt q hq).1; omega
      refine ⟨.slice A4 N' c4, N', ⟨HH.out.hB, (heap_setCell_same _ _ 0 _ _ _ ((hb.block _ hg1).trans H1.out.blk)).trans rfl, ?_, hne⟩, ?_, fun q hq => ?_⟩
      · refine ownsRow_base_a (rowR_kept hr fun q hq => heap_setCell_other _ _ _ _ (hne q hq)) ?_
        exact Nat.le_trans HH.out.hB (Nat.le_of_lt hg1)
      · exact ((Tur.of_below HB1.out).then (Tur.of_below hb |>.mono fun q hq => .inl hq)).then (Tur.set _ (.inl (.inl rfl)))
      · rcases hq with hq | hq
        · exact .inl (.inl hq)
        · exact .inr (Nat.le_trans HB1.out.size (hr.lt q hq).1)
    have m0 := h1.head
    have mg := h1.ltg
    have mf := blk_free h1.blk
    have m3 : w3.cell? ⟨g, 0, none⟩ = some (.slice (some ⟨b, 0, none⟩) n cap) := (hb13.cell (p := ⟨g, 0, none⟩) mg).trans m0
    have mg3 := Nat.lt_of_lt_of_le mg hb13.size
    have hkc : (k : Int) ≤ (cap : Int) := by have := HKN.out; omega
    have hkn2 : (k : Int) + 1 ≤ (n : Int) := by have := HKN.out; omega
    have hk0 : ¬ (k : Int) < 0 := by omega
    have hnc : (n : Int) ≤ (cap : Int) := by have := HKN.out; omega
    have hkb : (k : Int) ≤ 1000 := by omega
    by_cases hc : cap - (k + 1) = 0
    · have hsl : SlG 3 fW w3 (some ⟨b, 0, none⟩) (n - (k + 1)) (L.drop (k + 1)) := ⟨by rw [List.length_drop, HL.out], .inl (List.drop_eq_nil_of_le (by have := HL.out; have := HKN.out; omega))⟩
      obtain ⟨A4, c4, w4, happ4, hown4, -, -, hb4⟩ := rowR_src (c2 := 0) recR (by omega) fW_one hown3 hsl (by have := HN.out; have := HKN.out; omega) (by have := HN.out; have := HKN.out; omega) hb3.size
      obtain ⟨N', hN'⟩ : ∃ N', N' = k + (n - (k + 1)) := ⟨_, rfl⟩
      rw [← hN'] at happ4 hown4
      have F := hid (HDONE.out A4 c4 N' w4 hown4 (hb3.trans hb4))
      have m4 : w4.cell? ⟨g, 0, none⟩ = some (.slice (some ⟨b, 0, none⟩) n cap) := ((hb3.trans hb4).cell (p := ⟨g, 0, none⟩) mg).trans m0
      have mf4 : w4.frozen? ⟨g, 0, none⟩ = false := ((hb3.trans hb4).frozen (p := ⟨g, 0, none⟩) mg).trans (mf 0)
      have mg4 := Nat.lt_of_lt_of_le mg (hb3.trans hb4).size
      have HAPP3 := hid happ3
      have HAPP4 := hid happ4
      clear happ3 happ4 hown3 hown4 hb3 hb4 hb13 hsl hs1 hg3 hat3 hk hkn hf h1 hl hf1 hN' hcap HDONE
      go_upto_region 5 with fail
      go_upto_region 6 with (at_builtin; refine wpList_append_eq rfl _ _ _ rfl rfl rfl HAPP3.out ?_)
      go_upto_region 7 with (at_builtin; refine wpList_append_eq rfl _ _ _ rfl rfl rfl HAPP4.out ?_)
      go_wp2
      go_ret
      exact ⟨by rw [HFR.out.1]; rfl, F.out⟩
    · have hsl : SlG 3 fW w3 (some ⟨b, (k + 1) * 3, none⟩) (n - (k + 1)) (L.drop (k + 1)) := by
        have := (hs1.below hb13).drop (k := k + 1) HKN.out.1
        rw [Nat.zero_add] at this
        exact this
      obtain ⟨A4, c4, w4, happ4, hown4, -, -, hb4⟩ := rowR_src (c2 := cap - (k + 1)) recR (by omega) fW_one hown3 hsl (by have := HN.out; have := HKN.out; omega) (by have := HN.out; have := HKN.out; omega) hb3.size
      obtain ⟨N', hN'⟩ : ∃ N', N' = k + (n - (k + 1)) := ⟨_, rfl⟩
      rw [← hN'] at happ4 hown4
      have F := hid (HDONE.out A4 c4 N' w4 hown4 (hb3.trans hb4))
      have m4 : w4.cell? ⟨g, 0, none⟩ = some (.slice (some ⟨b, 0, none⟩) n cap) := ((hb3.trans hb4).cell (p := ⟨g, 0, none⟩) mg).trans m0
      have mf4 : w4.frozen? ⟨g, 0, none⟩ = false := ((hb3.trans hb4).frozen (p := ⟨g, 0, none⟩) mg).trans (mf 0)
      have mg4 := Nat.lt_of_lt_of_le mg (hb3.trans hb4).size
      have HAPP3 := hid happ3
      have HAPP4 := hid happ4
      clear happ3 happ4 hown3 hown4 hb3 hb4 hb13 hsl hs1 hg3 hat3 hk hkn hf h1 hl hf1 hN' hcap HDONE
      go_upto_region 5 with fail
      go_upto_region 6 with (at_builtin; refine wpList_append_eq rfl _ _ _ rfl rfl rfl HAPP3.out ?_)
      go_upto_region 7 with (at_builtin; refine wpList_append_eq rfl _ _ _ rfl rfl rfl HAPP4.out ?_)
      go_wp2
      go_ret
      exact ⟨by rw [HFR.out.1]; rfl, F.out⟩
end Go.Proofs.Ytingeijodooocaa
