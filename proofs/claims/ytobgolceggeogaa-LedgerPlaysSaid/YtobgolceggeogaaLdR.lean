/- Chapter 13's step: Take and Give. -/
import Derived.Test.YtobgolceggeogaaLdP
import Derived.Test.YtobgolceggeogaaRefP
namespace Go.Proofs.Ytobgolceggeogaa
open Go.RowKit Go.Maps
theorem SlB.sizes {B : Nat} {w : World} {S : Option Addr} {len : Nat} {l : List Ent} (h : SlB B w S len l) : ∀ e ∈ l, e.1.size ≤ maxLen := by
  obtain ⟨-, rfl | ⟨b, off, -, -, h⟩⟩ := h
  · exact fun e he => nomatch he
  · intro e he
    obtain ⟨j, hj, rfl⟩ := List.mem_iff_getElem.1 he
    exact (h j hj).1
/-- A row of the reference's entries reads as the entries; its block is no block of the ledgers. -/
theorem slE_of_ref {w : World} {base len : Nat} {v : Value} {l : List Ent} (hz : ∀ e ∈ l, e.1.size ≤ maxLen) (hlen : len = l.length) (h : w.ownsRow base 42 5 v len (flatE l)) :
    ∃ A cap, v = .slice A len cap ∧ SlE w A len l ∧ ∀ b off, A = some ⟨b, off, none⟩ → ∃ o, w.heap[b]? = some o ∧ notRef o := by
  subst hlen
  obtain ⟨_, ⟨rfl, h0⟩ | ⟨g, cap, cur, rfl, _, hh, _, _, _, ht⟩⟩ := h
  · exact ⟨none, 0, by rw [h0], ⟨rfl, .inl (List.length_eq_zero_iff.1 h0)⟩, fun b off e => nomatch e⟩
  · refine ⟨_, cap, rfl, ⟨rfl, .inr ⟨g, 0, rfl, lt_of_at hh, ?_⟩⟩, fun b off e => ?_⟩
    · have key : ∀ i u, (flatE l)[i]? = some u → w.cell? ⟨g, 0 + i, none⟩ = some u := by
        intro i u hu
        rw [blk_cell hh, Nat.zero_add]
        rw [← ht, List.getElem?_take] at hu
        split at hu
        · simpa using hu
        · cases hu
      intro j hj
      obtain ⟨f0, f1, f2, f3, f4⟩ := flatE_at l j hj
      exact ⟨hz _ (List.getElem_mem hj), key _ _ f0, key _ _ f1, key _ _ f2, key _ _ f3, key _ _ f4⟩
    · injection e with e
      injection e with e1
      subst e1
      exact ⟨_, hh, by decide, by decide⟩
set_option maxRecDepth 20000 in
set_option maxHeartbeats 4000000 in
theorem stepL5 (B L R n : Nat) (A : Acc) (s : ByteArray) (a b c d : Int) (S : Option Addr) (len cap : Nat) (l : List Ent) (w : World) (h : HalfP B w L R n n A A S len l) (hs : s.size ≤ maxLen) (hm : len ≤ 2000) (hk : KeyLe A) :
    Calls Try.prog 24 #[.pointer (some ⟨L, 0, none⟩), .pointer (some ⟨R, 0, none⟩), .agg #[.int .i64 5, .string s, .int .i64 a, .int .i64 b, .int .i64 c, .int .i64 d, .slice S len cap]] w fun e w' => e = .returned (.bool true) ∧ StepL B w w' L R S len l := by
  have HH := hid h
  have hn64 := h.led.1
  have hi := h.led.2.1
  have hz := h.ent.sizes
  have hlen := h.ent.1
  have HP : Hid (∀ W, HalfL B W L R n n A A S len l w.heap.size #[.int .i64 5, .string s, .int .i64 a, .int .i64 b, .int .i64 c, .int .i64 d, .slice S len cap] → Calls Try.prog 12 #[.pointer (some ⟨L, 0, none⟩), .slice S len cap] W fun e w' => e = .returned (.int .i64 (takeE A l)) ∧ HalfL B w' L R n n (takeR A l) A S len l w.heap.size #[.int .i64 5, .string s, .int .i64 a, .int .i64 b, .int .i64 c, .int .i64 d, .slice S len cap] ∧ Below B W w') := fun W hW =>
    (take_b B L n A S len cap l W hW.half.le hW.half.led (by unfold maxLen; omega) (hW.half.ent.sl hW.half.le)).mono fun e w' q => ⟨q.1, hW.prog q.2.1 q.2.2.1 q.2.2.2, q.2.2.1⟩
  have HPL : Hid (∀ W A', HalfL B W L R n n A' A S len l w.heap.size #[.int .i64 5, .string s, .int .i64 a, .int .i64 b, .int .i64 c, .int .i64 d, .slice S len cap] → Calls Try.prog 36 #[.slice S len cap] W fun e w' => ∃ v, e = .returned v ∧ HalfL B w' L R n n A' A S len l w.heap.size #[.int .i64 5, .string s, .int .i64 a, .int .i64 b, .int .i64 c, .int .i64 d, .slice S len cap] ∧ w'.ownsRow B 42 5 v len (flatE l) ∧ Below B W w') := fun W A' hW =>
    (plain_any S len cap l W (hW.half.ent.sl hW.half.le) (by omega)).mono fun e w' ⟨v, q1, q2, q3⟩ => ⟨v, q1, hW.below q3, ownsRow_base q2 hW.half.le, q3.mono hW.half.le⟩
  have HR : Hid (∀ W A' v, HalfL B W L R n n A' A S len l w.heap.size #[.int .i64 5, .string s, .int .i64 a, .int .i64 b, .int .i64 c, .int .i64 d, .slice S len cap] → W.ownsRow B 42 5 v len (flatE l) → Calls Try.prog 15 #[.pointer (some ⟨R, 0, none⟩), v] W fun e w' => e = .returned (.int .i64 (takeE A l)) ∧ HalfL B w' L R n n A' (takeR A l) S len l w.heap.size #[.int .i64 5, .string s, .int .i64 a, .int .i64 b, .int .i64 c, .int .i64 d, .slice S len cap] ∧ Below B W w') := fun W A' v hW hv => by
    obtain ⟨S', cap', rfl, q1, q2⟩ := slE_of_ref hz hlen hv
    exact (rtakes_o B R n A S' len cap' l W hW.half.le hW.half.ref hn64 hi q1 (by omega) q2).mono fun e w' q => ⟨q.1, hW.refs q.2.1 q.2.2.1 q.2.2.2, q.2.2.1⟩
  have hk' := hk.take l
  generalize takeE A l = er at HP HR
  generalize takeR A l = A' at HP HR hk'
  have HK := hid hk'
  clear h hs hn64 hi hz hlen hm hk hk'
  go_enter Try.func24, Try.ntmps24
  go_upto_region 15 with fail
  refine wp_name ?_
  intro w1 hw1
  have B1 : Below w.heap.size w w1 := by rw [hw1]; exact (by repeat (first | with_reducible assumption | with_reducible exact Below.refl _ _ | with_reducible refine Below.drew ?_ | with_reducible refine below_drewN ?_ _ | with_reducible refine below_alloc ?_ _ | with_reducible refine Below.alloc ?_ (by first | omega | (simp; done) | (simp; omega)) _ | with_reducible refine Below.setCell ?_ (by first | omega | (simp; done) | (simp; omega)) _ | with_reducible refine below_setRow ?_ (by first | omega | (simp; done) | (simp; omega)) _))
  have X1 : w1.heap[w.heap.size]? = some (.cells #[.int .i64 5, .string s, .int .i64 a, .int .i64 b, .int .i64 c, .int .i64 d, .slice S len cap] 50 (0, 0)) := by rw [hw1]; exact at_of (by apply Exists.intro; refine ⟨?_, ?_⟩; (focus ((repeat (first | (with_reducible assumption) | (with_reducible exact alloc_at _ _) | ((with_reducible apply alloc_at'); (simp; done)) | (with_reducible apply alloc_at_lt) | (with_reducible apply heap_drew_at) | (with_reducible apply heap_drewN_at) | (with_reducible apply heap_setCell_same) | ((with_reducible apply heap_set_ne); (first | omega | (dsimp only; omega) | (simp; done) | (simp; omega))) | (with_reducible apply setRow_at) | ((with_reducible apply setRow_ne); (first | omega | (dsimp only; omega) | (simp; done) | (simp; omega))))))); simp)
  have H1 : HalfL B w1 L R n n A A S len l w.heap.size #[.int .i64 5, .string s, .int .i64 a, .int .i64 b, .int .i64 c, .int .i64 d, .slice S len cap] := ⟨HH.out.below B1, X1⟩
  have HB1 := hid (B1.mono HH.out.le)
  have HL1 := hid B1
  clear hw1
  clear X1 B1
  have hb1p := HB1.out
  go_region_held3 (fun w' => w'.cell? ⟨w.heap.size, 6, none⟩ = some (.slice S len cap)) (((try go_split_ands); (try dsimp only); (first | refine (HalfL.cell6 (HalfL.below H93 ?_)) | refine (HalfL.cell6 (HalfL.below H92 ?_)) | refine (HalfL.cell6 (HalfL.below H91 ?_)) | refine (HalfL.cell6 (HalfL.below H1 ?_))); (focus ((repeat (first | with_reducible assumption | with_reducible exact Below.refl _ _ | with_reducible refine Below.drew ?_ | with_reducible refine below_drewN ?_ _ | with_reducible refine below_alloc ?_ _ | with_reducible refine Below.alloc ?_ (by first | omega | (simp; done) | (simp; omega)) _ | with_reducible refine Below.setCell ?_ (by first | omega | (simp; done) | (simp; omega)) _ | with_reducible refine below_setRow ?_ (by first | omega | (simp; done) | (simp; omega)) _)))))) (first | (go_at_call 12; refine (HP.out _ (H1.below (by repeat (first | with_reducible assumption | with_reducible exact Below.refl _ _ | with_reducible refine Below.drew ?_ | with_reducible refine below_drewN ?_ _ | with_reducible refine below_alloc ?_ _ | with_reducible refine Below.alloc ?_ (by first | omega | (simp; done) | (simp; omega)) _ | with_reducible refine Below.setCell ?_ (by first | omega | (simp; done) | (simp; omega)) _ | with_reducible refine below_setRow ?_ (by first | omega | (simp; done) | (simp; omega)) _)))).mono ?_; rintro e w91 ⟨rfl, H91, B91⟩; have BB91 : Below B w w91 := Below.trans (by repeat (first | with_reducible assumption | with_reducible exact Below.refl _ _ | with_reducible refine Below.drew ?_ | with_reducible refine below_drewN ?_ _ | with_reducible refine below_alloc ?_ _ | with_reducible refine Below.alloc ?_ (by first | omega | (simp; done) | (simp; omega)) _ | with_reducible refine Below.setCell ?_ (by first | omega | (simp; done) | (simp; omega)) _ | with_reducible refine below_setRow ?_ (by first | omega | (simp; done) | (simp; omega)) _)) B91) | (go_at_call 36; refine (HPL.out _ _ (H91.below (by repeat (first | with_reducible assumption | with_reducible exact Below.refl _ _ | with_reducible refine Below.drew ?_ | with_reducible refine below_drewN ?_ _ | with_reducible refine below_alloc ?_ _ | with_reducible refine Below.alloc ?_ (by first | omega | (simp; done) | (simp; omega)) _ | with_reducible refine Below.setCell ?_ (by first | omega | (simp; done) | (simp; omega)) _ | with_reducible refine below_setRow ?_ (by first | omega | (simp; done) | (simp; omega)) _)))).mono ?_; rintro e w92 ⟨v92, rfl, H92, R92, B92⟩; have BB92 : Below B w w92 := Below.trans (by repeat (first | with_reducible assumption | with_reducible exact Below.refl _ _ | with_reducible refine Below.drew ?_ | with_reducible refine below_drewN ?_ _ | with_reducible refine below_alloc ?_ _ | with_reducible refine Below.alloc ?_ (by first | omega | (simp; done) | (simp; omega)) _ | with_reducible refine Below.setCell ?_ (by first | omega | (simp; done) | (simp; omega)) _ | with_reducible refine below_setRow ?_ (by first | omega | (simp; done) | (simp; omega)) _)) B92) | (go_at_call 15; refine (HR.out _ _ _ (H92.below (by repeat (first | with_reducible assumption | with_reducible exact Below.refl _ _ | with_reducible refine Below.drew ?_ | with_reducible refine below_drewN ?_ _ | with_reducible refine below_alloc ?_ _ | with_reducible refine Below.alloc ?_ (by first | omega | (simp; done) | (simp; omega)) _ | with_reducible refine Below.setCell ?_ (by first | omega | (simp; done) | (simp; omega)) _ | with_reducible refine below_setRow ?_ (by first | omega | (simp; done) | (simp; omega)) _))) (ownsRow_at R92 (fun g hg => Below.block (B := w92.heap.size) (w := w92) (by repeat (first | with_reducible assumption | with_reducible exact Below.refl _ _ | with_reducible refine Below.drew ?_ | with_reducible refine below_drewN ?_ _ | with_reducible refine below_alloc ?_ _ | with_reducible refine Below.alloc ?_ (by first | omega | (simp; done) | (simp; omega)) _ | with_reducible refine Below.setCell ?_ (by first | omega | (simp; done) | (simp; omega)) _ | with_reducible refine below_setRow ?_ (by first | omega | (simp; done) | (simp; omega)) _)) g (R92.lt g hg).2))).mono ?_; rintro e w93 ⟨rfl, H93, B93⟩; have BB93 : Below B w w93 := Below.trans (by repeat (first | with_reducible assumption | with_reducible exact Below.refl _ _ | with_reducible refine Below.drew ?_ | with_reducible refine below_drewN ?_ _ | with_reducible refine below_alloc ?_ _ | with_reducible refine Below.alloc ?_ (by first | omega | (simp; done) | (simp; omega)) _ | with_reducible refine Below.setCell ?_ (by first | omega | (simp; done) | (simp; omega)) _ | with_reducible refine below_setRow ?_ (by first | omega | (simp; done) | (simp; omega)) _)) B93))
  all_goals
    have HF : Hid (StepL B w w93 L R S len l) := ⟨_, _, HK.out, H93.half, BB93⟩
    clear H1 H91 H92 H93 BB91 BB92 BB93 B91 B92 B93 R92 HB1 hb1p
    go_wp2
    go_ret
    exact ⟨by simp, HF.out⟩
set_option maxRecDepth 20000 in
set_option maxHeartbeats 4000000 in
theorem stepL6 (B L R n : Nat) (A : Acc) (s : ByteArray) (a b c d : Int) (S : Option Addr) (len cap : Nat) (l : List Ent) (w : World) (h : HalfP B w L R n n A A S len l) (hs : s.size ≤ maxLen) (hm : len ≤ 2000) (hk : KeyLe A) :
    Calls Try.prog 24 #[.pointer (some ⟨L, 0, none⟩), .pointer (some ⟨R, 0, none⟩), .agg #[.int .i64 6, .string s, .int .i64 a, .int .i64 b, .int .i64 c, .int .i64 d, .slice S len cap]] w fun e w' => e = .returned (.bool true) ∧ StepL B w w' L R S len l := by
  have HH := hid h
  have hn64 := h.led.1
  have hi := h.led.2.1
  have hz := h.ent.sizes
  have hlen := h.ent.1
  have HP : Hid (∀ W, HalfL B W L R n n A A S len l w.heap.size #[.int .i64 6, .string s, .int .i64 a, .int .i64 b, .int .i64 c, .int .i64 d, .slice S len cap] → Calls Try.prog 21 #[.pointer (some ⟨L, 0, none⟩), .slice S len cap] W fun e w' => e = .returned (.int .i64 (giveE A l)) ∧ HalfL B w' L R n n (giveR A l) A S len l w.heap.size #[.int .i64 6, .string s, .int .i64 a, .int .i64 b, .int .i64 c, .int .i64 d, .slice S len cap] ∧ Below B W w') := fun W hW =>
    (give_b B L n A S len cap l W hW.half.le hW.half.led (by unfold maxLen; omega) (hW.half.ent.sl hW.half.le)).mono fun e w' q => ⟨q.1, hW.prog q.2.1 q.2.2.1 q.2.2.2, q.2.2.1⟩
  have HPL : Hid (∀ W A', HalfL B W L R n n A' A S len l w.heap.size #[.int .i64 6, .string s, .int .i64 a, .int .i64 b, .int .i64 c, .int .i64 d, .slice S len cap] → Calls Try.prog 36 #[.slice S len cap] W fun e w' => ∃ v, e = .returned v ∧ HalfL B w' L R n n A' A S len l w.heap.size #[.int .i64 6, .string s, .int .i64 a, .int .i64 b, .int .i64 c, .int .i64 d, .slice S len cap] ∧ w'.ownsRow B 42 5 v len (flatE l) ∧ Below B W w') := fun W A' hW =>
    (plain_any S len cap l W (hW.half.ent.sl hW.half.le) (by omega)).mono fun e w' ⟨v, q1, q2, q3⟩ => ⟨v, q1, hW.below q3, ownsRow_base q2 hW.half.le, q3.mono hW.half.le⟩
  have HR : Hid (∀ W A' v, HalfL B W L R n n A' A S len l w.heap.size #[.int .i64 6, .string s, .int .i64 a, .int .i64 b, .int .i64 c, .int .i64 d, .slice S len cap] → W.ownsRow B 42 5 v len (flatE l) → Calls Try.prog 37 #[.pointer (some ⟨R, 0, none⟩), v] W fun e w' => e = .returned (.int .i64 (giveE A l)) ∧ HalfL B w' L R n n A' (giveR A l) S len l w.heap.size #[.int .i64 6, .string s, .int .i64 a, .int .i64 b, .int .i64 c, .int .i64 d, .slice S len cap] ∧ Below B W w') := fun W A' v hW hv => by
    obtain ⟨S', cap', rfl, q1, q2⟩ := slE_of_ref hz hlen hv
    exact (rgives_o B R n A S' len cap' l W hW.half.le hW.half.ref hn64 hi q1 (by omega) q2).mono fun e w' q => ⟨q.1, hW.refs q.2.1 q.2.2.1 q.2.2.2, q.2.2.1⟩
  have hk' := hk.give l
  generalize giveE A l = er at HP HR
  generalize giveR A l = A' at HP HR hk'
  have HK := hid hk'
  clear h hs hn64 hi hz hlen hm hk hk'
  go_enter Try.func24, Try.ntmps24
  go_upto_region 17 with fail
  refine wp_name ?_
  intro w1 hw1
  have B1 : Below w.heap.size w w1 := by rw [hw1]; exact (by repeat (first | with_reducible assumption | with_reducible exact Below.refl _ _ | with_reducible refine Below.drew ?_ | with_reducible refine below_drewN ?_ _ | with_reducible refine below_alloc ?_ _ | with_reducible refine Below.alloc ?_ (by first | omega | (simp; done) | (simp; omega)) _ | with_reducible refine Below.setCell ?_ (by first | omega | (simp; done) | (simp; omega)) _ | with_reducible refine below_setRow ?_ (by first | omega | (simp; done) | (simp; omega)) _))
  have X1 : w1.heap[w.heap.size]? = some (.cells #[.int .i64 6, .string s, .int .i64 a, .int .i64 b, .int .i64 c, .int .i64 d, .slice S len cap] 50 (0, 0)) := by rw [hw1]; exact at_of (by apply Exists.intro; refine ⟨?_, ?_⟩; (focus ((repeat (first | (with_reducible assumption) | (with_reducible exact alloc_at _ _) | ((with_reducible apply alloc_at'); (simp; done)) | (with_reducible apply alloc_at_lt) | (with_reducible apply heap_drew_at) | (with_reducible apply heap_drewN_at) | (with_reducible apply heap_setCell_same) | ((with_reducible apply heap_set_ne); (first | omega | (dsimp only; omega) | (simp; done) | (simp; omega))) | (with_reducible apply setRow_at) | ((with_reducible apply setRow_ne); (first | omega | (dsimp only; omega) | (simp; done) | (simp; omega))))))); simp)
  have H1 : HalfL B w1 L R n n A A S len l w.heap.size #[.int .i64 6, .string s, .int .i64 a, .int .i64 b, .int .i64 c, .int .i64 d, .slice S len cap] := ⟨HH.out.below B1, X1⟩
  have HB1 := hid (B1.mono HH.out.le)
  have HL1 := hid B1
  clear hw1
  clear X1 B1
  have hb1p := HB1.out
  go_region_held3 (fun w' => w'.cell? ⟨w.heap.size, 6, none⟩ = some (.slice S len cap)) (((try go_split_ands); (try dsimp only); (first | refine (HalfL.cell6 (HalfL.below H93 ?_)) | refine (HalfL.cell6 (HalfL.below H92 ?_)) | refine (HalfL.cell6 (HalfL.below H91 ?_)) | refine (HalfL.cell6 (HalfL.below H1 ?_))); (focus ((repeat (first | with_reducible assumption | with_reducible exact Below.refl _ _ | with_reducible refine Below.drew ?_ | with_reducible refine below_drewN ?_ _ | with_reducible refine below_alloc ?_ _ | with_reducible refine Below.alloc ?_ (by first | omega | (simp; done) | (simp; omega)) _ | with_reducible refine Below.setCell ?_ (by first | omega | (simp; done) | (simp; omega)) _ | with_reducible refine below_setRow ?_ (by first | omega | (simp; done) | (simp; omega)) _)))))) (first | (go_at_call 21; refine (HP.out _ (H1.below (by repeat (first | with_reducible assumption | with_reducible exact Below.refl _ _ | with_reducible refine Below.drew ?_ | with_reducible refine below_drewN ?_ _ | with_reducible refine below_alloc ?_ _ | with_reducible refine Below.alloc ?_ (by first | omega | (simp; done) | (simp; omega)) _ | with_reducible refine Below.setCell ?_ (by first | omega | (simp; done) | (simp; omega)) _ | with_reducible refine below_setRow ?_ (by first | omega | (simp; done) | (simp; omega)) _)))).mono ?_; rintro e w91 ⟨rfl, H91, B91⟩; have BB91 : Below B w w91 := Below.trans (by repeat (first | with_reducible assumption | with_reducible exact Below.refl _ _ | with_reducible refine Below.drew ?_ | with_reducible refine below_drewN ?_ _ | with_reducible refine below_alloc ?_ _ | with_reducible refine Below.alloc ?_ (by first | omega | (simp; done) | (simp; omega)) _ | with_reducible refine Below.setCell ?_ (by first | omega | (simp; done) | (simp; omega)) _ | with_reducible refine below_setRow ?_ (by first | omega | (simp; done) | (simp; omega)) _)) B91) | (go_at_call 36; refine (HPL.out _ _ (H91.below (by repeat (first | with_reducible assumption | with_reducible exact Below.refl _ _ | with_reducible refine Below.drew ?_ | with_reducible refine below_drewN ?_ _ | with_reducible refine below_alloc ?_ _ | with_reducible refine Below.alloc ?_ (by first | omega | (simp; done) | (simp; omega)) _ | with_reducible refine Below.setCell ?_ (by first | omega | (simp; done) | (simp; omega)) _ | with_reducible refine below_setRow ?_ (by first | omega | (simp; done) | (simp; omega)) _)))).mono ?_; rintro e w92 ⟨v92, rfl, H92, R92, B92⟩; have BB92 : Below B w w92 := Below.trans (by repeat (first | with_reducible assumption | with_reducible exact Below.refl _ _ | with_reducible refine Below.drew ?_ | with_reducible refine below_drewN ?_ _ | with_reducible refine below_alloc ?_ _ | with_reducible refine Below.alloc ?_ (by first | omega | (simp; done) | (simp; omega)) _ | with_reducible refine Below.setCell ?_ (by first | omega | (simp; done) | (simp; omega)) _ | with_reducible refine below_setRow ?_ (by first | omega | (simp; done) | (simp; omega)) _)) B92) | (go_at_call 37; refine (HR.out _ _ _ (H92.below (by repeat (first | with_reducible assumption | with_reducible exact Below.refl _ _ | with_reducible refine Below.drew ?_ | with_reducible refine below_drewN ?_ _ | with_reducible refine below_alloc ?_ _ | with_reducible refine Below.alloc ?_ (by first | omega | (simp; done) | (simp; omega)) _ | with_reducible refine Below.setCell ?_ (by first | omega | (simp; done) | (simp; omega)) _ | with_reducible refine below_setRow ?_ (by first | omega | (simp; done) | (simp; omega)) _))) (ownsRow_at R92 (fun g hg => Below.block (B := w92.heap.size) (w := w92) (by repeat (first | with_reducible assumption | with_reducible exact Below.refl _ _ | with_reducible refine Below.drew ?_ | with_reducible refine below_drewN ?_ _ | with_reducible refine below_alloc ?_ _ | with_reducible refine Below.alloc ?_ (by first | omega | (simp; done) | (simp; omega)) _ | with_reducible refine Below.setCell ?_ (by first | omega | (simp; done) | (simp; omega)) _ | with_reducible refine below_setRow ?_ (by first | omega | (simp; done) | (simp; omega)) _)) g (R92.lt g hg).2))).mono ?_; rintro e w93 ⟨rfl, H93, B93⟩; have BB93 : Below B w w93 := Below.trans (by repeat (first | with_reducible assumption | with_reducible exact Below.refl _ _ | with_reducible refine Below.drew ?_ | with_reducible refine below_drewN ?_ _ | with_reducible refine below_alloc ?_ _ | with_reducible refine Below.alloc ?_ (by first | omega | (simp; done) | (simp; omega)) _ | with_reducible refine Below.setCell ?_ (by first | omega | (simp; done) | (simp; omega)) _ | with_reducible refine below_setRow ?_ (by first | omega | (simp; done) | (simp; omega)) _)) B93))
  all_goals
    have HF : Hid (StepL B w w93 L R S len l) := ⟨_, _, HK.out, H93.half, BB93⟩
    clear H1 H91 H92 H93 BB91 BB92 BB93 B91 B92 B93 R92 HB1 hb1p
    go_wp2
    go_ret
    exact ⟨by simp, HF.out⟩
end Go.Proofs.Ytobgolceggeogaa
