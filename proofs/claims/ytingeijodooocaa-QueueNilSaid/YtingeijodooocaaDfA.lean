/- Chapter 14's reference: its list in memory; find, Get. -/
import Derived.Test.YtingeijodooocaaQuI
namespace Go.Proofs.Ytingeijodooocaa
open Go.RowKit
/-- The reference's queue: its block, its row. -/
structure RfQ (B : Nat) (w : World) (g : Nat) (v : Value) (n : Nat) (L : List Wt) : Prop where
  hB : B ≤ g
  blk : w.heap[g]? = some (.cells #[v] 46 (0, 0))
  row : w.ownsRow B 56 3 v n (flatR 3 fW L)
  ne : ∀ b, v.ownBlock = some b → b ≠ g
def FootR (g : Nat) (v : Value) (k : Nat) : Prop := k = g ∨ v.ownBlock = some k
variable {B g n c : Nat} {w w' wr : World} {v : Value} {L : List Wt}
theorem RfQ.ltg (h : RfQ B w g v n L) : g < w.heap.size := lt_of_at h.blk
theorem RfQ.foot (h : RfQ B w g v n L) {k : Nat} (hk : FootR g v k) : B ≤ k ∧ k < w.heap.size := by
  rcases hk with rfl | hk
  · exact ⟨h.hB, h.ltg⟩
  · exact h.row.lt k hk
theorem RfQ.kept (h : RfQ B w g v n L) (e : ∀ k, FootR g v k → w'.heap[k]? = w.heap[k]?) : RfQ B w' g v n L :=
  ⟨h.hB, (e g (.inl rfl)).trans h.blk, rowR_kept h.row fun b hb => e b (.inr hb), h.ne⟩
theorem RfQ.below (h : RfQ B w g v n L) (hb : Below w.heap.size w w') : RfQ B w' g v n L := h.kept fun k hk => hb.block k (h.foot hk).2
theorem RfQ.len (h : RfQ B w g v n L) : L.length = n := rowR_len h.row (by omega)
theorem RfQ.head (h : RfQ B w g v n L) : w.cell? ⟨g, 0, none⟩ = some v := (blk_cell h.blk 0).trans rfl
theorem recR : RecT 56 44 3 32 Try.prog := recT_of Try.underlying44 (by kernel_rfl) (by kernel_rfl)
theorem infoR : (Try.prog.info? 56).map (·.size) = some 3 := by kernel_rfl
/-- What is read of one element. -/
theorem RfQ.elem (h : RfQ B w g v n L) (hb : Below w.heap.size w w') {i : Nat} {x : Wt} (hi : L[i]? = some x) :
    ∃ b cap, v = .slice (some ⟨b, 0, none⟩) n cap ∧ b < w'.heap.size ∧ (∀ o, w'.frozen? ⟨b, o, none⟩ = false) ∧ w'.cell? ⟨b, i * 3, none⟩ = some (.int .i64 x.job) ∧ w'.cell? ⟨b, i * 3 + 1, none⟩ = some (.string x.ten) ∧ w'.cell? ⟨b, i * 3 + 2, none⟩ = some (.int .i64 x.pri) := by
  have h2 := h.below hb
  have hn : 0 < n := by
    have := (List.getElem?_eq_some_iff.1 hi).1
    have := h.len
    omega
  obtain ⟨b, cap, e, -, hl, hf, hc⟩ := rowR_cells h2.row hn
  exact ⟨b, cap, e, hl, hf, hc i x hi 0 (by omega), hc i x hi 1 (by omega), hc i x hi 2 (by omega)⟩
/-- Where a job stands. -/
def Plc (L : List Wt) (j : Int) (r : Int) : Prop := (fndQ L j = none ∧ r = -1) ∨ ∃ (k : Nat) (v : Wt), L[k]? = some v ∧ v.job = j ∧ fndQ L j = some v ∧ r = k
theorem fnd_at {L : List Wt} {j : Int} {k : Nat} {v : Wt} (hk : L[k]? = some v) (hv : v.job = j) (hn : ∀ i x, i < k → L[i]? = some x → x.job ≠ j) : fndQ L j = some v := by
  unfold fndQ
  rw [List.find?_eq_some_iff_getElem]
  obtain ⟨h1, h2⟩ := List.getElem?_eq_some_iff.1 hk
  refine ⟨by simpa using hv, k, h1, h2, fun i hi => ?_⟩
  have := hn i _ hi (List.getElem?_eq_getElem (by omega))
  simpa using this
set_option maxRecDepth 20000 in
set_option maxHeartbeats 2000000 in
theorem rfind_g (h : RfQ B w g v n L) (hn : n ≤ 1000) (j : Int) :
    Calls Try.prog 41 #[.pointer (some ⟨g, 0, none⟩), .int .i64 j] w fun e w' => (∃ r, e = .returned (.int .i64 r) ∧ Plc L j r) ∧ Below w.heap.size w w' := by
  have HH := hid h
  have HL := hid h.len
  have hnb : (n : Int) ≤ 1000 := by omega
  obtain ⟨A, cap, rfl⟩ := rowR_shape h.row
  clear h hn
  have HI0 : Hid ((∀ k x, k < 0 → L[k]? = some x → x.job ≠ j) ∧ Below w.heap.size w w) := ⟨fun k x hk => by omega, Below.refl _ _⟩
  have hlg := HH.out.ltg
  go_enter Try.func41, Try.ntmps41
  go_wp2_with fail
  go_loopw [5] (fun iv wr => ∃ i : Nat, i ≤ n ∧ iv = .int .i64 i ∧ Hid ((∀ k x, k < i → L[k]? = some x → x.job ≠ j) ∧ Below w.heap.size w wr)) (fun iv _ => n - (intOf iv).toNat)
  case atStart => exact ⟨0, Nat.zero_le _, rfl, HI0⟩
  case round =>
    clear HI0
    obtain ⟨i, hi, rfl, HI⟩ := hrel
    have m0 := (HH.out.below HI.out.2).head
    have mg := (HH.out.below HI.out.2).ltg
    by_cases hin : i < n
    · have HK1 : Hid (i + 1 ≤ n) := hin
      have HMS : Hid (n - (i + 1) < n - i) := by unfold Hid; omega
      have hii : (i : Int) < (n : Int) := by omega
      obtain ⟨x, hx⟩ : ∃ x, L[i]? = some x := ⟨_, List.getElem?_eq_getElem (by have := HL.out; omega)⟩
      obtain ⟨b, cap', e, hl, -, c0, -, -⟩ := HH.out.elem HI.out.2 hx
      injection e with e1 e2 e3
      subst e1 e3
      by_cases hq : x.job = j
      · have FIN : Hid (Plc L j (i : Int) ∧ Below w.heap.size w wr) := ⟨.inr ⟨i, x, hx, hq, fnd_at hx hq HI.out.1, rfl⟩, HI.out.2⟩
        rw [hq] at c0
        clear hin hi hx hq HI
        go_wp2
        go_ret
        exact ⟨⟨_, rfl, FIN.out.1⟩, FIN.out.2⟩
      · have HX := hid hx
        have HF : Hid ((∀ k x, k < i + 1 → L[k]? = some x → x.job ≠ j) ∧ Below w.heap.size w wr) := ⟨fun k y hk hy => by
          by_cases e : k = i
          · subst e
            rw [HX.out] at hy
            injection hy with hy
            rw [← hy]; exact hq
          · exact HI.out.1 k y (by omega) hy, HI.out.2⟩
        clear hin hi hx HI
        go_wp2
        go_roundw
        case rel => exact ⟨i + 1, HK1.out, by go_num, HF⟩
        case measure => have := HMS.out; simp [intOf]; omega
    · obtain rfl : i = n := by omega
      have hii : ¬ (i : Int) < (i : Int) := by omega
      have FIN : Hid (Plc L j (-1) ∧ Below w.heap.size w wr) := ⟨.inl ⟨fnd_none.2 fun x hx => by
        obtain ⟨k, hk, rfl⟩ := List.mem_iff_getElem.1 hx
        exact HI.out.1 k _ (by have := HL.out; omega) (List.getElem?_eq_getElem hk), rfl⟩, HI.out.2⟩
      clear hin hi HI
      go_wp2
      go_ret
      exact ⟨⟨_, rfl, FIN.out.1⟩, FIN.out.2⟩
set_option maxRecDepth 20000 in
set_option maxHeartbeats 2000000 in
theorem rget_g (h : RfQ B w g v n L) (hn : n ≤ 1000) (j : Int) :
    Calls Try.prog 36 #[.pointer (some ⟨g, 0, none⟩), .int .i64 j] w fun e w' => e = .returned (.tuple #[wtV (got (fndQ L j)), .int .i64 (gotE (fndQ L j))]) ∧ Below w.heap.size w w' := by
  have HH := hid h
  have HF : Hid (∀ W, Below w.heap.size w W → Calls Try.prog 41 #[.pointer (some ⟨g, 0, none⟩), .int .i64 j] W fun e w' => (∃ r, e = .returned (.int .i64 r) ∧ Plc L j r) ∧ Below W.heap.size W w') := fun W hb => rfind_g (h.below hb) hn j
  have HL := hid h.len
  have hnb : (n : Int) ≤ 1000 := by omega
  clear h hn
  go_enter Try.func36, Try.ntmps36
  go_wp2_with fail
  refine (HF.out _ (by repeat (first | with_reducible assumption | with_reducible exact Below.refl _ _ | with_reducible refine Below.drew ?_ | with_reducible refine below_drewN ?_ _ | with_reducible refine below_alloc ?_ _ | with_reducible refine Below.alloc ?_ (by first | omega | (simp; done) | (simp; omega)) _ | with_reducible refine Below.setCell ?_ (by first | omega | (simp; done) | (simp; omega)) _ | with_reducible refine below_setRow ?_ (by first | omega | (simp; done) | (simp; omega)) _))).mono ?_
  rintro e w1 ⟨⟨r, rfl, hp⟩, hb1⟩
  have A1 : w1.heap[w.heap.size]? = some (.cells #[.int .i64 0, .string ⟨#[]⟩, .int .i64 0] 56 (0, 0)) := (hb1.block _ (by simp)).trans (by (repeat (first | (with_reducible assumption) | (with_reducible exact alloc_at _ _) | ((with_reducible apply alloc_at'); (simp; done)) | (with_reducible apply alloc_at_lt) | (with_reducible apply heap_drew_at) | (with_reducible apply heap_drewN_at) | (with_reducible apply heap_setCell_same) | ((with_reducible apply heap_set_ne); (first | omega | (dsimp only; omega) | (simp; done) | (simp; omega))) | (with_reducible apply setRow_at) | ((with_reducible apply setRow_ne); (first | omega | (dsimp only; omega) | (simp; done) | (simp; omega))))))
  have hs1 := hb1.size
  simp only [World.size_alloc] at hs1
  have B1 : Below w.heap.size w w1 := Below.trans (by repeat (first | with_reducible assumption | with_reducible exact Below.refl _ _ | with_reducible refine Below.drew ?_ | with_reducible refine below_drewN ?_ _ | with_reducible refine below_alloc ?_ _ | with_reducible refine Below.alloc ?_ (by first | omega | (simp; done) | (simp; omega)) _ | with_reducible refine Below.setCell ?_ (by first | omega | (simp; done) | (simp; omega)) _ | with_reducible refine below_setRow ?_ (by first | omega | (simp; done) | (simp; omega)) _)) (hb1.mono (by first | omega | (simp; done) | (simp; omega)))
  have l1 := lt_of_at A1
  have qf := blk_free A1
  clear hb1 HF
  have q0 : w1.cell? ⟨w.heap.size, 0, none⟩ = some (.int .i64 0) := (blk_cell A1 0).trans rfl
  have q1 : w1.cell? ⟨w.heap.size, 1, none⟩ = some (.string ⟨#[]⟩) := (blk_cell A1 1).trans rfl
  have q2 : w1.cell? ⟨w.heap.size, 2, none⟩ = some (.int .i64 0) := (blk_cell A1 2).trans rfl
  rcases hp with ⟨hf, rfl⟩ | ⟨k, x, hk, hxj, hf, rfl⟩
  · have HFq := hid hf
    clear hf
    go_wp2
    refine ret_row2 rfl w.heap.size #[.int .i64 0, .string ⟨#[]⟩, .int .i64 0] 56 _ rfl Try.underlying56 rfl infoR rfl (by apply Exists.intro; refine ⟨?_, ?_⟩; (focus ((repeat (first | (with_reducible assumption) | (with_reducible exact alloc_at _ _) | ((with_reducible apply alloc_at'); (simp; done)) | (with_reducible apply alloc_at_lt) | (with_reducible apply heap_drew_at) | (with_reducible apply heap_drewN_at) | (with_reducible apply heap_setCell_same) | ((with_reducible apply heap_set_ne); (first | omega | (dsimp only; omega) | (simp; done) | (simp; omega))) | (with_reducible apply setRow_at) | ((with_reducible apply setRow_ne); (first | omega | (dsimp only; omega) | (simp; done) | (simp; omega))))))); simp) ⟨by rw [HFq.out]; rfl, (by repeat (first | with_reducible assumption | with_reducible exact Below.refl _ _ | with_reducible refine Below.drew ?_ | with_reducible refine below_drewN ?_ _ | with_reducible refine below_alloc ?_ _ | with_reducible refine Below.alloc ?_ (by first | omega | (simp; done) | (simp; omega)) _ | with_reducible refine Below.setCell ?_ (by first | omega | (simp; done) | (simp; omega)) _ | with_reducible refine below_setRow ?_ (by first | omega | (simp; done) | (simp; omega)) _))⟩
  · have HFq := hid hf
    obtain ⟨b, cap, e, hl, -, c0, c1, c2⟩ := HH.out.elem B1 hk
    have m0 := (HH.out.below B1).head
    have mg := (HH.out.below B1).ltg
    rw [e] at m0
    have hkn : (k : Int) < (n : Int) := by
      have := (List.getElem?_eq_some_iff.1 hk).1
      have := HL.out
      omega
    have hk0 : ¬ (k : Int) < 0 := by omega
    clear hk hf hxj e
    go_wp2
    refine ret_row2 rfl w.heap.size #[.int .i64 x.job, .string x.ten, .int .i64 x.pri] 56 _ rfl Try.underlying56 rfl infoR rfl (by apply Exists.intro; refine ⟨?_, ?_⟩; (focus ((repeat (first | (with_reducible assumption) | (with_reducible exact alloc_at _ _) | ((with_reducible apply alloc_at'); (simp; done)) | (with_reducible apply alloc_at_lt) | (with_reducible apply heap_drew_at) | (with_reducible apply heap_drewN_at) | (with_reducible apply heap_setCell_same) | ((with_reducible apply heap_set_ne); (first | omega | (dsimp only; omega) | (simp; done) | (simp; omega))) | (with_reducible apply setRow_at) | ((with_reducible apply setRow_ne); (first | omega | (dsimp only; omega) | (simp; done) | (simp; omega))))))); simp) ⟨by rw [HFq.out]; rfl, (by repeat (first | with_reducible assumption | with_reducible exact Below.refl _ _ | with_reducible refine Below.drew ?_ | with_reducible refine below_drewN ?_ _ | with_reducible refine below_alloc ?_ _ | with_reducible refine Below.alloc ?_ (by first | omega | (simp; done) | (simp; omega)) _ | with_reducible refine Below.setCell ?_ (by first | omega | (simp; done) | (simp; omega)) _ | with_reducible refine below_setRow ?_ (by first | omega | (simp; done) | (simp; omega)) _))⟩
end Go.Proofs.Ytingeijodooocaa
