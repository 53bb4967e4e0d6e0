/- Chapter 13's step: the ledger and the reference, side by side: Open and Close. -/
import Derived.Test.YtobgolceggeogaaRefF
import Derived.Test.YtobgolceggeogaaLedC
import Derived.Deep.RegionHeld3
namespace Go.Proofs.Ytobgolceggeogaa
open Go.RowKit Go.Maps
theorem ownsRow_base {W : World} {base base' : Nat} {e : TypeId} {size : Nat} {v : Value} {k : Nat} {xs : List Value} (h : W.ownsRow base e size v k xs) (hb : base' ≤ base) : W.ownsRow base' e size v k xs := by
  obtain ⟨h3, h4 | ⟨g, cap, cur, rfl, hg, rest⟩⟩ := h
  · exact ⟨h3, .inl h4⟩
  · exact ⟨h3, .inr ⟨g, cap, cur, rfl, Nat.le_trans hb hg, rest⟩⟩
/-- A slice of entries that lies below B. -/
def SlB (B : Nat) (w : World) (S : Option Addr) (len : Nat) (l : List Ent) : Prop := len = l.length ∧ (l = [] ∨ ∃ b off, S = some ⟨b, off, none⟩ ∧ b < B ∧ HoldsE w b off l)
theorem SlB.below {B : Nat} {w w' : World} {S : Option Addr} {len : Nat} {l : List Ent} (h : SlB B w S len l) (hw : Below B w w') : SlB B w' S len l := by
  obtain ⟨h0, h | ⟨b, off, e, hb, h⟩⟩ := h
  · exact ⟨h0, .inl h⟩
  · exact ⟨h0, .inr ⟨b, off, e, hb, h.at_world (hw.block b hb)⟩⟩
theorem SlB.sl {B : Nat} {w : World} {S : Option Addr} {len : Nat} {l : List Ent} (h : SlB B w S len l) (hB : B ≤ w.heap.size) : SlE w S len l := by
  obtain ⟨h0, h | ⟨b, off, e, hb, h⟩⟩ := h
  · exact ⟨h0, .inl h⟩
  · exact ⟨h0, .inr ⟨b, off, e, Nat.lt_of_lt_of_le hb hB, h⟩⟩
/-- The ledger and the reference, and the entries of the call. -/
structure HalfP (B : Nat) (w : World) (L R n m : Nat) (A M : Acc) (S : Option Addr) (len : Nat) (l : List Ent) : Prop where
  led : LedB B w L n A
  ref : RefO B w R m M
  ent : SlB B w S len l
theorem HalfP.le {B L R n m len : Nat} {w : World} {A M : Acc} {S : Option Addr} {l : List Ent} (h : HalfP B w L R n m A M S len l) : B ≤ w.heap.size := Nat.le_trans h.led.2.2.1 (Nat.le_of_lt h.led.lt)
theorem HalfP.below {B L R n m len : Nat} {w w' : World} {A M : Acc} {S : Option Addr} {l : List Ent} (h : HalfP B w L R n m A M S len l) (hb : Below w.heap.size w w') : HalfP B w' L R n m A M S len l := ⟨h.led.below hb, h.ref.below hb, h.ent.below (hb.mono h.le)⟩
/-- The names are no longer than a text can be. -/
def KeyLe (A : Acc) : Prop := ∀ k, (A k).isSome = true → k.length ≤ maxLen
theorem KeyLe.open_ {A : Acc} (h : KeyLe A) (n : Nat) {k : List UInt8} (hk : k.length ≤ maxLen) (v : V) : KeyLe (openA A n k v) := by
  unfold openA
  split
  · intro j hj
    by_cases e : j = k
    · subst e; exact hk
    · rw [putA_other _ _ e] at hj; exact h j hj
  · exact h
theorem KeyLe.close {A : Acc} (h : KeyLe A) (k : List UInt8) : KeyLe (closeA A k) := by
  unfold closeA
  split
  · intro j hj
    by_cases e : j = k
    · subst e; rw [delA_same] at hj; cases hj
    · rw [delA_other _ e] at hj; exact h j hj
  · exact h
theorem KeyLe.take {A : Acc} (h : KeyLe A) (l : List Ent) : KeyLe (takeR A l) := by
  unfold takeR
  split
  · intro j hj
    unfold takeA at hj
    split at hj
    · rw [Option.isSome_map] at hj; exact h j hj
    · exact h j hj
  · exact h
theorem KeyLe.give {A : Acc} (h : KeyLe A) (l : List Ent) : KeyLe (giveR A l) := by
  unfold giveR
  split
  · intro j hj
    unfold giveA at hj
    split at hj
    · rw [Option.isSome_map] at hj; exact h j hj
    · exact h j hj
  · exact h
theorem len_size {s : ByteArray} (h : s.size ≤ maxLen) : s.data.toList.length ≤ maxLen := by rw [Array.length_toList]; exact h
def StepL (B : Nat) (w w' : World) (L R : Nat) (S : Option Addr) (len : Nat) (l : List Ent) : Prop := ∃ n A, KeyLe A ∧ HalfP B w' L R n n A A S len l ∧ Below B w w'
/-- And the call's own block. -/
structure HalfL (B : Nat) (w : World) (L R n m : Nat) (A M : Acc) (S : Option Addr) (len : Nat) (l : List Ent) (g : Nat) (cs : Array Value) : Prop where
  half : HalfP B w L R n m A M S len l
  box : w.heap[g]? = some (.cells cs 50 (0, 0))
theorem HalfL.below {B L R n m len g : Nat} {w w' : World} {A M : Acc} {S : Option Addr} {l : List Ent} {cs : Array Value} (h : HalfL B w L R n m A M S len l g cs) (hb : Below w.heap.size w w') : HalfL B w' L R n m A M S len l g cs := ⟨h.half.below hb, below_at hb (lt_of_at h.box) h.box⟩
theorem HalfL.cells {B L R n m len g cap : Nat} {w : World} {A M : Acc} {S : Option Addr} {l : List Ent} {s : ByteArray} {k a b c d : Int} (h : HalfL B w L R n m A M S len l g #[.int .i64 k, .string s, .int .i64 a, .int .i64 b, .int .i64 c, .int .i64 d, .slice S len cap]) :
    w.cell? ⟨g, 1, none⟩ = some (.string s) ∧ w.cell? ⟨g, 2, none⟩ = some (.int .i64 a) ∧ w.cell? ⟨g, 3, none⟩ = some (.int .i64 b) ∧ w.cell? ⟨g, 4, none⟩ = some (.int .i64 c) ∧ w.cell? ⟨g, 5, none⟩ = some (.int .i64 d) := ⟨(blk_cell h.box 1).trans rfl, (blk_cell h.box 2).trans rfl, (blk_cell h.box 3).trans rfl, (blk_cell h.box 4).trans rfl, (blk_cell h.box 5).trans rfl⟩
theorem HalfL.cell6 {B L R n m len g cap : Nat} {w : World} {A M : Acc} {S : Option Addr} {l : List Ent} {s : ByteArray} {k a b c d : Int} (h : HalfL B w L R n m A M S len l g #[.int .i64 k, .string s, .int .i64 a, .int .i64 b, .int .i64 c, .int .i64 d, .slice S len cap]) :
    w.cell? ⟨g, 6, none⟩ = some (.slice S len cap) := (blk_cell h.box 6).trans rfl
theorem HalfL.prog {B L R n n' m len g : Nat} {w w' : World} {A A' M : Acc} {S : Option Addr} {l : List Ent} {cs : Array Value} (h : HalfL B w L R n m A M S len l g cs) (hL : LedB B w' L n' A') (hb : Below B w w') (hk : KeptC w w' L) : HalfL B w' L R n' m A' M S len l g cs :=
  ⟨⟨hL, h.half.ref.keptC h.half.led hk, h.half.ent.below hb⟩, hk _ _ _ _ (fun e => by
    subst e
    obtain ⟨-, -, -, m, hL, -⟩ := h.half.led
    have h1 := h.box
    rw [hL.1] at h1
    injection h1 with h1
    injection h1 with _ h5
    exact absurd h5 (by decide)) h.box⟩
theorem HalfL.refs {B L R n m m' len g : Nat} {w w' : World} {A M M' : Acc} {S : Option Addr} {l : List Ent} {cs : Array Value} (h : HalfL B w L R n m A M S len l g cs) (hR : RefO B w' R m' M') (hb : Below B w w') (hk : KeptT w w') : HalfL B w' L R n m' A M' S len l g cs :=
  ⟨⟨h.half.led.keptT hk, hR, h.half.ent.below hb⟩, hk _ _ h.box ⟨by decide, by decide⟩⟩
set_option maxRecDepth 20000 in
set_option maxHeartbeats 4000000 in
theorem stepL1 (B L R n : Nat) (A : Acc) (s : ByteArray) (a b c d : Int) (S : Option Addr) (len cap : Nat) (l : List Ent) (w : World) (h : HalfP B w L R n n A A S len l) (hs : s.size ≤ maxLen) (hm : len ≤ 2000) (hk : KeyLe A) :
    Calls Try.prog 24 #[.pointer (some ⟨L, 0, none⟩), .pointer (some ⟨R, 0, none⟩), .agg #[.int .i64 1, .string s, .int .i64 a, .int .i64 b, .int .i64 c, .int .i64 d, .slice S len cap]] w fun e w' => e = .returned (.bool true) ∧ StepL B w w' L R S len l := by
  have HH := hid h
  have hn64 := h.led.1
  have HP : Hid (∀ W, HalfL B W L R n n A A S len l w.heap.size #[.int .i64 1, .string s, .int .i64 a, .int .i64 b, .int .i64 c, .int .i64 d, .slice S len cap] → Calls Try.prog 11 #[.pointer (some ⟨L, 0, none⟩), .string s, .agg #[.int .i64 a, .int .i64 b, .int .i64 c, .int .i64 d]] W fun e w' => e = .returned (.int .i64 (openE A n s.data.toList (a, b, c, d))) ∧ HalfL B w' L R (openN A n s.data.toList (a, b, c, d)) n (openA A n s.data.toList (a, b, c, d)) A S len l w.heap.size #[.int .i64 1, .string s, .int .i64 a, .int .i64 b, .int .i64 c, .int .i64 d, .slice S len cap] ∧ Below B W w') := fun W hW =>
    (open_b B L n A s a b c d W hW.half.le hW.half.led hs).mono fun e w' q => ⟨q.1, hW.prog q.2.1 q.2.2.1 q.2.2.2, q.2.2.1⟩
  have HR : Hid (∀ W n' A', HalfL B W L R n' n A' A S len l w.heap.size #[.int .i64 1, .string s, .int .i64 a, .int .i64 b, .int .i64 c, .int .i64 d, .slice S len cap] → Calls Try.prog 14 #[.pointer (some ⟨R, 0, none⟩), .string s, .agg #[.int .i64 a, .int .i64 b, .int .i64 c, .int .i64 d]] W fun e w' => e = .returned (.int .i64 (openE A n s.data.toList (a, b, c, d))) ∧ HalfL B w' L R n' (openN A n s.data.toList (a, b, c, d)) A' (openA A n s.data.toList (a, b, c, d)) S len l w.heap.size #[.int .i64 1, .string s, .int .i64 a, .int .i64 b, .int .i64 c, .int .i64 d, .slice S len cap] ∧ Below B W w') := fun W n' A' hW =>
    (ropen_o B R n A s a b c d W hW.half.le hW.half.ref hn64).mono fun e w' q => ⟨q.1, hW.refs q.2.1 q.2.2.1 q.2.2.2, q.2.2.1⟩
  have hk' := hk.open_ n (len_size hs) (a, b, c, d)
  generalize openE A n s.data.toList (a, b, c, d) = er at HP HR
  generalize openN A n s.data.toList (a, b, c, d) = n' at HP HR
  generalize openA A n s.data.toList (a, b, c, d) = A' at HP HR hk'
  have HK := hid hk'
  clear h hs hn64 hm hk hk'
  go_enter Try.func24, Try.ntmps24
  go_upto_region 3 with fail
  refine wp_name ?_
  intro w1 hw1
  have B1 : Below w.heap.size w w1 := by rw [hw1]; exact (by repeat (first | with_reducible assumption | with_reducible exact Below.refl _ _ | with_reducible refine Below.drew ?_ | with_reducible refine below_drewN ?_ _ | with_reducible refine below_alloc ?_ _ | with_reducible refine Below.alloc ?_ (by first | omega | (simp; done) | (simp; omega)) _ | with_reducible refine Below.setCell ?_ (by first | omega | (simp; done) | (simp; omega)) _ | with_reducible refine below_setRow ?_ (by first | omega | (simp; done) | (simp; omega)) _))
  have X1 : w1.heap[w.heap.size]? = some (.cells #[.int .i64 1, .string s, .int .i64 a, .int .i64 b, .int .i64 c, .int .i64 d, .slice S len cap] 50 (0, 0)) := by rw [hw1]; exact at_of (by apply Exists.intro; refine ⟨?_, ?_⟩; (focus ((repeat (first | (with_reducible assumption) | (with_reducible exact alloc_at _ _) | ((with_reducible apply alloc_at'); (simp; done)) | (with_reducible apply alloc_at_lt) | (with_reducible apply heap_drew_at) | (with_reducible apply heap_drewN_at) | (with_reducible apply heap_setCell_same) | ((with_reducible apply heap_set_ne); (first | omega | (dsimp only; omega) | (simp; done) | (simp; omega))) | (with_reducible apply setRow_at) | ((with_reducible apply setRow_ne); (first | omega | (dsimp only; omega) | (simp; done) | (simp; omega))))))); simp)
  have H1 : HalfL B w1 L R n n A A S len l w.heap.size #[.int .i64 1, .string s, .int .i64 a, .int .i64 b, .int .i64 c, .int .i64 d, .slice S len cap] := ⟨HH.out.below B1, X1⟩
  have HB1 := hid (B1.mono HH.out.le)
  have HL1 := hid B1
  clear hw1
  clear X1 B1
  have hb1p := HB1.out
  go_region_held3 (fun w' => w'.cell? ⟨w.heap.size, 1, none⟩ = some (.string s) ∧ w'.cell? ⟨w.heap.size, 2, none⟩ = some (.int .i64 a) ∧ w'.cell? ⟨w.heap.size, 3, none⟩ = some (.int .i64 b) ∧ w'.cell? ⟨w.heap.size, 4, none⟩ = some (.int .i64 c) ∧ w'.cell? ⟨w.heap.size, 5, none⟩ = some (.int .i64 d)) (((try go_split_ands); (try dsimp only); (first | refine (HalfL.cells (HalfL.below H92 ?_)) | refine (HalfL.cells (HalfL.below H91 ?_)) | refine (HalfL.cells (HalfL.below H1 ?_))); (focus ((repeat (first | with_reducible assumption | with_reducible exact Below.refl _ _ | with_reducible refine Below.drew ?_ | with_reducible refine below_drewN ?_ _ | with_reducible refine below_alloc ?_ _ | with_reducible refine Below.alloc ?_ (by first | omega | (simp; done) | (simp; omega)) _ | with_reducible refine Below.setCell ?_ (by first | omega | (simp; done) | (simp; omega)) _ | with_reducible refine below_setRow ?_ (by first | omega | (simp; done) | (simp; omega)) _)))))) (first | (go_at_call 11; refine (HP.out _ (H1.below (by repeat (first | with_reducible assumption | with_reducible exact Below.refl _ _ | with_reducible refine Below.drew ?_ | with_reducible refine below_drewN ?_ _ | with_reducible refine below_alloc ?_ _ | with_reducible refine Below.alloc ?_ (by first | omega | (simp; done) | (simp; omega)) _ | with_reducible refine Below.setCell ?_ (by first | omega | (simp; done) | (simp; omega)) _ | with_reducible refine below_setRow ?_ (by first | omega | (simp; done) | (simp; omega)) _)))).mono ?_; rintro e w91 ⟨rfl, H91, B91⟩; have BB91 : Below B w w91 := Below.trans (by repeat (first | with_reducible assumption | with_reducible exact Below.refl _ _ | with_reducible refine Below.drew ?_ | with_reducible refine below_drewN ?_ _ | with_reducible refine below_alloc ?_ _ | with_reducible refine Below.alloc ?_ (by first | omega | (simp; done) | (simp; omega)) _ | with_reducible refine Below.setCell ?_ (by first | omega | (simp; done) | (simp; omega)) _ | with_reducible refine below_setRow ?_ (by first | omega | (simp; done) | (simp; omega)) _)) B91) | (go_at_call 14; refine (HR.out _ _ _ (H91.below (by repeat (first | with_reducible assumption | with_reducible exact Below.refl _ _ | with_reducible refine Below.drew ?_ | with_reducible refine below_drewN ?_ _ | with_reducible refine below_alloc ?_ _ | with_reducible refine Below.alloc ?_ (by first | omega | (simp; done) | (simp; omega)) _ | with_reducible refine Below.setCell ?_ (by first | omega | (simp; done) | (simp; omega)) _ | with_reducible refine below_setRow ?_ (by first | omega | (simp; done) | (simp; omega)) _)))).mono ?_; rintro e w92 ⟨rfl, H92, B92⟩; have BB92 : Below B w w92 := Below.trans (by repeat (first | with_reducible assumption | with_reducible exact Below.refl _ _ | with_reducible refine Below.drew ?_ | with_reducible refine below_drewN ?_ _ | with_reducible refine below_alloc ?_ _ | with_reducible refine Below.alloc ?_ (by first | omega | (simp; done) | (simp; omega)) _ | with_reducible refine Below.setCell ?_ (by first | omega | (simp; done) | (simp; omega)) _ | with_reducible refine below_setRow ?_ (by first | omega | (simp; done) | (simp; omega)) _)) B92))
  all_goals
    have HF : Hid (StepL B w w92 L R S len l) := ⟨_, _, HK.out, H92.half, BB92⟩
    clear H1 H91 H92 BB91 BB92 B91 B92 HB1 hb1p
    go_wp2
    go_ret
    exact ⟨by simp, HF.out⟩
set_option maxRecDepth 20000 in
set_option maxHeartbeats 4000000 in
theorem stepL2 (B L R n : Nat) (A : Acc) (s : ByteArray) (a b c d : Int) (S : Option Addr) (len cap : Nat) (l : List Ent) (w : World) (h : HalfP B w L R n n A A S len l) (hs : s.size ≤ maxLen) (hm : len ≤ 2000) (hk : KeyLe A) :
    Calls Try.prog 24 #[.pointer (some ⟨L, 0, none⟩), .pointer (some ⟨R, 0, none⟩), .agg #[.int .i64 2, .string s, .int .i64 a, .int .i64 b, .int .i64 c, .int .i64 d, .slice S len cap]] w fun e w' => e = .returned (.bool true) ∧ StepL B w w' L R S len l := by
  have HH := hid h
  have hn64 := h.led.1
  have HP : Hid (∀ W, HalfL B W L R n n A A S len l w.heap.size #[.int .i64 2, .string s, .int .i64 a, .int .i64 b, .int .i64 c, .int .i64 d, .slice S len cap] → Calls Try.prog 16 #[.pointer (some ⟨L, 0, none⟩), .string s] W fun e w' => e = .returned (.int .i64 (closeE A s.data.toList)) ∧ HalfL B w' L R (closeN A n s.data.toList) n (closeA A s.data.toList) A S len l w.heap.size #[.int .i64 2, .string s, .int .i64 a, .int .i64 b, .int .i64 c, .int .i64 d, .slice S len cap] ∧ Below B W w') := fun W hW =>
    (close_b B L n A s W hW.half.le hW.half.led hs).mono fun e w' q => ⟨q.1, hW.prog q.2.1 q.2.2.1 q.2.2.2, q.2.2.1⟩
  have HR : Hid (∀ W n' A', HalfL B W L R n' n A' A S len l w.heap.size #[.int .i64 2, .string s, .int .i64 a, .int .i64 b, .int .i64 c, .int .i64 d, .slice S len cap] → Calls Try.prog 17 #[.pointer (some ⟨R, 0, none⟩), .string s] W fun e w' => e = .returned (.int .i64 (closeE A s.data.toList)) ∧ HalfL B w' L R n' (closeN A n s.data.toList) A' (closeA A s.data.toList) S len l w.heap.size #[.int .i64 2, .string s, .int .i64 a, .int .i64 b, .int .i64 c, .int .i64 d, .slice S len cap] ∧ Below B W w') := fun W n' A' hW =>
    (rclose_o B R n A s W hW.half.le hW.half.ref hn64).mono fun e w' q => ⟨q.1, hW.refs q.2.1 q.2.2.1 q.2.2.2, q.2.2.1⟩
  have hk' := hk.close s.data.toList
  generalize closeE A s.data.toList = er at HP HR
  generalize closeN A n s.data.toList = n' at HP HR
  generalize closeA A s.data.toList = A' at HP HR hk'
  have HK := hid hk'
  clear h hs hn64 hm hk hk'
  go_enter Try.func24, Try.ntmps24
  go_upto_region 5 with fail
  refine wp_name ?_
  intro w1 hw1
  have B1 : Below w.heap.size w w1 := by rw [hw1]; exact (by repeat (first | with_reducible assumption | with_reducible exact Below.refl _ _ | with_reducible refine Below.drew ?_ | with_reducible refine below_drewN ?_ _ | with_reducible refine below_alloc ?_ _ | with_reducible refine Below.alloc ?_ (by first | omega | (simp; done) | (simp; omega)) _ | with_reducible refine Below.setCell ?_ (by first | omega | (simp; done) | (simp; omega)) _ | with_reducible refine below_setRow ?_ (by first | omega | (simp; done) | (simp; omega)) _))
  have X1 : w1.heap[w.heap.size]? = some (.cells #[.int .i64 2, .string s, .int .i64 a, .int .i64 b, .int .i64 c, .int .i64 d, .slice S len cap] 50 (0, 0)) := by rw [hw1]; exact at_of (by apply Exists.intro; refine ⟨?_, ?_⟩; (focus ((repeat (first | (with_reducible assumption) | (with_reducible exact alloc_at _ _) | ((with_reducible apply alloc_at'); (simp; done)) | (with_reducible apply alloc_at_lt) | (with_reducible apply heap_drew_at) | (with_reducible apply heap_drewN_at) | (with_reducible apply heap_setCell_same) | ((with_reducible apply heap_set_ne); (first | omega | (dsimp only; omega) | (simp; done) | (simp; omega))) | (with_reducible apply setRow_at) | ((with_reducible apply setRow_ne); (first | omega | (dsimp only; omega) | (simp; done) | (simp; omega))))))); simp)
  have H1 : HalfL B w1 L R n n A A S len l w.heap.size #[.int .i64 2, .string s, .int .i64 a, .int .i64 b, .int .i64 c, .int .i64 d, .slice S len cap] := ⟨HH.out.below B1, X1⟩
  have HB1 := hid (B1.mono HH.out.le)
  have HL1 := hid B1
  clear hw1
  clear X1 B1
  have hb1p := HB1.out
  go_region_held3 (fun w' => w'.cell? ⟨w.heap.size, 1, none⟩ = some (.string s)) (((try go_split_ands); (try dsimp only); (first | refine (HalfL.cells (HalfL.below H92 ?_)).1 | refine (HalfL.cells (HalfL.below H91 ?_)).1 | refine (HalfL.cells (HalfL.below H1 ?_)).1); (focus ((repeat (first | with_reducible assumption | with_reducible exact Below.refl _ _ | with_reducible refine Below.drew ?_ | with_reducible refine below_drewN ?_ _ | with_reducible refine below_alloc ?_ _ | with_reducible refine Below.alloc ?_ (by first | omega | (simp; done) | (simp; omega)) _ | with_reducible refine Below.setCell ?_ (by first | omega | (simp; done) | (simp; omega)) _ | with_reducible refine below_setRow ?_ (by first | omega | (simp; done) | (simp; omega)) _)))))) (first | (go_at_call 16; refine (HP.out _ (H1.below (by repeat (first | with_reducible assumption | with_reducible exact Below.refl _ _ | with_reducible refine Below.drew ?_ | with_reducible refine below_drewN ?_ _ | with_reducible refine below_alloc ?_ _ | with_reducible refine Below.alloc ?_ (by first | omega | (simp; done) | (simp; omega)) _ | with_reducible refine Below.setCell ?_ (by first | omega | (simp; done) | (simp; omega)) _ | with_reducible refine below_setRow ?_ (by first | omega | (simp; done) | (simp; omega)) _)))).mono ?_; rintro e w91 ⟨rfl, H91, B91⟩; have BB91 : Below B w w91 := Below.trans (by repeat (first | with_reducible assumption | with_reducible exact Below.refl _ _ | with_reducible refine Below.drew ?_ | with_reducible refine below_drewN ?_ _ | with_reducible refine below_alloc ?_ _ | with_reducible refine Below.alloc ?_ (by first | omega | (simp; done) | (simp; omega)) _ | with_reducible refine Below.setCell ?_ (by first | omega | (simp; done) | (simp; omega)) _ | with_reducible refine below_setRow ?_ (by first | omega | (simp; done) | (simp; omega)) _)) B91) | (go_at_call 17; refine (HR.out _ _ _ (H91.below (by repeat (first | with_reducible assumption | with_reducible exact Below.refl _ _ | with_reducible refine Below.drew ?_ | with_reducible refine below_drewN ?_ _ | with_reducible refine below_alloc ?_ _ | with_reducible refine Below.alloc ?_ (by first | omega | (simp; done) | (simp; omega)) _ | with_reducible refine Below.setCell ?_ (by first | omega | (simp; done) | (simp; omega)) _ | with_reducible refine below_setRow ?_ (by first | omega | (simp; done) | (simp; omega)) _)))).mono ?_; rintro e w92 ⟨rfl, H92, B92⟩; have BB92 : Below B w w92 := Below.trans (by repeat (first | with_reducible assumption | with_reducible exact Below.refl _ _ | with_reducible refine Below.drew ?_ | with_reducible refine below_drewN ?_ _ | with_reducible refine below_alloc ?_ _ | with_reducible refine Below.alloc ?_ (by first | omega | (simp; done) | (simp; omega)) _ | with_reducible refine Below.setCell ?_ (by first | omega | (simp; done) | (simp; omega)) _ | with_reducible refine below_setRow ?_ (by first | omega | (simp; done) | (simp; omega)) _)) B92))
  all_goals
    have HF : Hid (StepL B w w92 L R S len l) := ⟨_, _, HK.out, H92.half, BB92⟩
    clear H1 H91 H92 BB91 BB92 B91 B92 HB1 hb1p
    go_wp2
    go_ret
    exact ⟨by simp, HF.out⟩
end Go.Proofs.Ytobgolceggeogaa
