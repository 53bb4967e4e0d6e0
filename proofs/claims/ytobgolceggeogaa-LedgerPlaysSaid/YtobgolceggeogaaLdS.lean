/- Chapter 13's step: Names; any other kind; the step whole. -/
import Derived.Test.YtobgolceggeogaaLdQ
import Derived.Test.YtobgolceggeogaaLdR
import Derived.Test.YtobgolceggeogaaLedK
import Derived.Test.YtobgolceggeogaaRefE
namespace Go.Proofs.Ytobgolceggeogaa
open Go.RowKit Go.Maps
/-- The program's names and the reference's are the same. -/
theorem names_eq {B L R n : Nat} {A : Acc} {w : World} (hL : LedB B w L n A) (hR : RefO B w R n A) :
    ∃ l : List RA, l.length ≤ 64 ∧ (∀ W, Below w.heap.size w W → Calls Try.prog 28 #[.pointer (some ⟨L, 0, none⟩)] W fun e w' => ∃ v, e = .returned v ∧ w'.ownsRow W.heap.size 9 1 v l.length (l.map (fun x => Value.string x.1)) ∧ Below W.heap.size W w') ∧
      (∀ W, Below w.heap.size w W → Calls Try.prog 25 #[.pointer (some ⟨R, 0, none⟩)] W fun e w' => ∃ v, e = .returned v ∧ w'.ownsRow W.heap.size 9 1 v l.length (l.map (fun x => Value.string x.1)) ∧ Below W.heap.size W w') ∧ l.length = n ∧ RowO A n l := by
  obtain ⟨v, l, h1, h2⟩ := hR
  have hn := hL.1
  have hl := h2.1.1
  refine ⟨l, by omega, fun W hb => ?_, fun W hb => rnames_any B R v l W (h1.below hb) (by omega), by omega, h2⟩
  refine (names_led B L n A W (hL.below hb)).mono fun e w' ⟨v, ss, q1, q2, q3, q4⟩ => ⟨v, q1, ?_, q4⟩
  obtain ⟨e1, e2⟩ := names_same h2 q2
  rw [e1, e2] at q3
  exact q3
set_option maxRecDepth 20000 in
set_option maxHeartbeats 4000000 in
theorem stepL7 (B L R n : Nat) (A : Acc) (s : ByteArray) (a b c d : Int) (S : Option Addr) (len cap : Nat) (l : List Ent) (w : World) (h : HalfP B w L R n n A A S len l) (hs : s.size ≤ maxLen) (hm : len ≤ 2000) (hk : KeyLe A) :
    Calls Try.prog 24 #[.pointer (some ⟨L, 0, none⟩), .pointer (some ⟨R, 0, none⟩), .agg #[.int .i64 7, .string s, .int .i64 a, .int .i64 b, .int .i64 c, .int .i64 d, .slice S len cap]] w fun e w' => e = .returned (.bool true) ∧ StepL B w w' L R S len l := by
  have HH := hid h
  obtain ⟨ls, hls, h7, h8, -⟩ := names_eq h.led h.ref
  have HM := hid hls
  have H7 := hid h7
  have H8 := hid h8
  have HK := hid hk
  clear h hs hm hls h7 h8 hk
  go_enter Try.func24, Try.ntmps24
  go_upto_region 19 with fail
  refine wp_name ?_
  intro w1 hw1
  have B1 : Below w.heap.size w w1 := by rw [hw1]; exact (by repeat (first | with_reducible assumption | with_reducible exact Below.refl _ _ | with_reducible refine Below.drew ?_ | with_reducible refine below_drewN ?_ _ | with_reducible refine below_alloc ?_ _ | with_reducible refine Below.alloc ?_ (by first | omega | (simp; done) | (simp; omega)) _ | with_reducible refine Below.setCell ?_ (by first | omega | (simp; done) | (simp; omega)) _ | with_reducible refine below_setRow ?_ (by first | omega | (simp; done) | (simp; omega)) _))
  have X1 : w1.heap[w.heap.size]? = some (.cells #[.int .i64 7, .string s, .int .i64 a, .int .i64 b, .int .i64 c, .int .i64 d, .slice S len cap] 50 (0, 0)) := by rw [hw1]; exact at_of (by apply Exists.intro; refine ⟨?_, ?_⟩; (focus ((repeat (first | (with_reducible assumption) | (with_reducible exact alloc_at _ _) | ((with_reducible apply alloc_at'); (simp; done)) | (with_reducible apply alloc_at_lt) | (with_reducible apply heap_drew_at) | (with_reducible apply heap_drewN_at) | (with_reducible apply heap_setCell_same) | ((with_reducible apply heap_set_ne); (first | omega | (dsimp only; omega) | (simp; done) | (simp; omega))) | (with_reducible apply setRow_at) | ((with_reducible apply setRow_ne); (first | omega | (dsimp only; omega) | (simp; done) | (simp; omega))))))); simp)
  have H1 : HalfL B w1 L R n n A A S len l w.heap.size #[.int .i64 7, .string s, .int .i64 a, .int .i64 b, .int .i64 c, .int .i64 d, .slice S len cap] := ⟨HH.out.below B1, X1⟩
  have HB1 := hid (B1.mono HH.out.le)
  have HL1 := hid B1
  clear hw1
  clear X1 B1
  have HX1 := hid H1
  clear H1
  go_wp2_with fail
  refine (H7.out _ HL1.out).mono ?_
  rintro e w2 ⟨v2, rfl, r2, hb2⟩
  have HB2 : Hid (Below w1.heap.size w1 w2) := hb2
  have HR2 := hid r2
  have B2 := HL1.out.trans (hb2.mono HL1.out.size)
  clear r2 hb2
  go_wp2_with fail
  refine (H8.out _ B2).mono ?_
  rintro e w3 ⟨v3, rfl, r3, hb3⟩
  have HB3 : Hid (Below w1.heap.size w1 w3) := HB2.out.trans (hb3.mono HB2.out.size)
  have HR2' := hid (ownsRow_at HR2.out (fun g hg => hb3.block g (HR2.out.lt g hg).2))
  have HR3 := hid r3
  clear r3 hb3 B2
  go_wp2_with fail
  refine (sameS_eq w3 v2 v3 ls HR2'.out HR3.out (by have := HM.out; omega)).mono ?_
  rintro e w4 ⟨rfl, hb4⟩
  have HB4 : Hid (Below w1.heap.size w1 w4) := HB3.out.trans (hb4.mono HB3.out.size)
  clear hb4
  go_wp2
  go_ret
  exact ⟨rfl, _, _, HK.out, (HX1.out.below HB4.out).half, HB1.out.trans (HB4.out.mono (by have := HH.out.le; have := HL1.out.size; omega))⟩
set_option maxRecDepth 20000 in
set_option maxHeartbeats 4000000 in
theorem stepLo (B L R n : Nat) (A : Acc) (s : ByteArray) (k a b c d : Int) (S : Option Addr) (len cap : Nat) (l : List Ent) (w : World) (h : HalfP B w L R n n A A S len l) (hk : KeyLe A) (e1 : ¬ k = 1) (e2 : ¬ k = 2) (e3 : ¬ k = 3) (e4 : ¬ k = 4) (e5 : ¬ k = 5) (e6 : ¬ k = 6) (e7 : ¬ k = 7) :
    Calls Try.prog 24 #[.pointer (some ⟨L, 0, none⟩), .pointer (some ⟨R, 0, none⟩), .agg #[.int .i64 k, .string s, .int .i64 a, .int .i64 b, .int .i64 c, .int .i64 d, .slice S len cap]] w fun e w' => e = .returned (.bool true) ∧ StepL B w w' L R S len l := by
  have HH := hid h
  clear h
  have f1 : (k == 1) = false := by simp; exact e1
  have f2 : (k == 2) = false := by simp; exact e2
  have f3 : (k == 3) = false := by simp; exact e3
  have f4 : (k == 4) = false := by simp; exact e4
  have f5 : (k == 5) = false := by simp; exact e5
  have f6 : (k == 6) = false := by simp; exact e6
  have f7 : (k == 7) = false := by simp; exact e7
  go_enter Try.func24, Try.ntmps24
  go_wp2
  go_ret
  exact ⟨rfl, _, _, hk, HH.out.below (by repeat (first | with_reducible assumption | with_reducible exact Below.refl _ _ | with_reducible refine Below.drew ?_ | with_reducible refine below_drewN ?_ _ | with_reducible refine below_alloc ?_ _ | with_reducible refine Below.alloc ?_ (by first | omega | (simp; done) | (simp; omega)) _ | with_reducible refine Below.setCell ?_ (by first | omega | (simp; done) | (simp; omega)) _ | with_reducible refine below_setRow ?_ (by first | omega | (simp; done) | (simp; omega)) _)), (Below.mono (by repeat (first | with_reducible assumption | with_reducible exact Below.refl _ _ | with_reducible refine Below.drew ?_ | with_reducible refine below_drewN ?_ _ | with_reducible refine below_alloc ?_ _ | with_reducible refine Below.alloc ?_ (by first | omega | (simp; done) | (simp; omega)) _ | with_reducible refine Below.setCell ?_ (by first | omega | (simp; done) | (simp; omega)) _ | with_reducible refine below_setRow ?_ (by first | omega | (simp; done) | (simp; omega)) _)) HH.out.le)⟩
theorem stepL_any (B L R n : Nat) (A : Acc) (s : ByteArray) (k a b c d : Int) (S : Option Addr) (len cap : Nat) (l : List Ent) (w : World) (h : HalfP B w L R n n A A S len l) (hs : s.size ≤ maxLen) (hm : len ≤ 2000) (hk : KeyLe A) :
    Calls Try.prog 24 #[.pointer (some ⟨L, 0, none⟩), .pointer (some ⟨R, 0, none⟩), .agg #[.int .i64 k, .string s, .int .i64 a, .int .i64 b, .int .i64 c, .int .i64 d, .slice S len cap]] w fun e w' => e = .returned (.bool true) ∧ StepL B w w' L R S len l := by
  by_cases k1 : k = 1
  · subst k1; exact stepL1 B L R n A s a b c d S len cap l w h hs hm hk
  by_cases k2 : k = 2
  · subst k2; exact stepL2 B L R n A s a b c d S len cap l w h hs hm hk
  by_cases k3 : k = 3
  · subst k3; exact stepL3 B L R n A s a b c d S len cap l w h hs hm hk
  by_cases k4 : k = 4
  · subst k4; exact stepL4 B L R n A s a b c d S len cap l w h hs hm hk
  by_cases k5 : k = 5
  · subst k5; exact stepL5 B L R n A s a b c d S len cap l w h hs hm hk
  by_cases k6 : k = 6
  · subst k6; exact stepL6 B L R n A s a b c d S len cap l w h hs hm hk
  by_cases k7 : k = 7
  · subst k7; exact stepL7 B L R n A s a b c d S len cap l w h hs hm hk
  exact stepLo B L R n A s k a b c d S len cap l w h hk k1 k2 k3 k4 k5 k6 k7
end Go.Proofs.Ytobgolceggeogaa
