/- Chapter 14: the queue and its reference side by side; plain, same. -/
import Derived.Test.YtingeijodooocaaDfE
import Derived.Test.YtingeijodooocaaQvA
namespace Go.Proofs.Ytingeijodooocaa
open Go.RowKit
/-- Both, no block in common, none protected. -/
structure Du (w0 w : World) (q g : Nat) (Lp Lr : List Wt) (c : Nat) (P : Nat → Prop) : Prop where
  ex : ∃ F v n, QB w0.heap.size w q Lp c F ∧ RfQ w0.heap.size w g v n Lr ∧ (∀ k, F k → ¬ FootR g v k ∧ ¬ P k) ∧ ∀ k, FootR g v k → ¬ P k
  bel : Below w0.heap.size w0 w
variable {w0 w w' : World} {q g c c' : Nat} {Lp Lr L : List Wt} {P P' : Nat → Prop} {u : Wt}
theorem Du.add (h : Du w0 w q g Lp Lr c P) (hb : Below w.heap.size w w') (e : ∀ k, P' k → P k ∨ w.heap.size ≤ k) : Du w0 w' q g Lp Lr c P' := by
  obtain ⟨⟨F, v, n, h1, h2, h3, h4⟩, h5⟩ := h
  refine ⟨⟨F, v, n, h1.below hb, h2.below hb, fun k hk => ⟨(h3 k hk).1, fun hp => ?_⟩, fun k hk hp => ?_⟩, h5.trans (hb.mono h5.size)⟩
  · rcases e k hp with q1 | q1
    · exact (h3 k hk).2 q1
    · have := (h1.foot hk).2; omega
  · rcases e k hp with q1 | q1
    · exact h4 k hk q1
    · have := (h2.foot hk).2; omega
theorem Du.below (h : Du w0 w q g Lp Lr c P) (hb : Below w.heap.size w w') : Du w0 w' q g Lp Lr c P := h.add hb fun _ h => .inl h
theorem Du.less (h : Du w0 w q g Lp Lr c P) (e : ∀ k, P' k → P k) : Du w0 w q g Lp Lr c P' := h.add (Below.refl _ _) fun k hk => .inl (e k hk)
theorem Du.qs (h : Du w0 w q g Lp Lr c P) : QS w0 w q Lp c := by
  obtain ⟨⟨F, v, n, h1, -⟩, h5⟩ := h
  exact ⟨⟨F, h1⟩, h5⟩
theorem Du.rf (h : Du w0 w q g Lp Lr c P) : ∃ v n, RfQ w0.heap.size w g v n Lr := by
  obtain ⟨⟨F, v, n, -, h2, -⟩, -⟩ := h
  exact ⟨v, n, h2⟩
theorem QB.more {B : Nat} {F : Nat → Prop} (h : QB B w q L c F) (hc : c ≤ c') (hc2 : c' ≤ 1000) : QB B w q L c' F := by
  obtain ⟨m, nA, A, nH, Hm, D, h1, h2, h3⟩ := h
  exact ⟨m, nA, A, nH, Hm, D, h1.more hc hc2, h2, Nat.le_trans h3 hc⟩
theorem Du.more (h : Du w0 w q g Lp Lr c P) (hc : c ≤ c') (hc2 : c' ≤ 1000) : Du w0 w q g Lp Lr c' P := by
  obtain ⟨⟨F, v, n, h1, h2⟩, h5⟩ := h
  exact ⟨⟨F, v, n, h1.more hc hc2, h2⟩, h5⟩
theorem Du.nextQ {F : Nat → Prop} {v : Value} {n : Nat} {L' : List Wt} (h1 : QB w0.heap.size w q Lp c F) (h2 : RfQ w0.heap.size w g v n Lr) (h3 : ∀ k, F k → ¬ FootR g v k ∧ ¬ P k) (h4 : ∀ k, FootR g v k → ¬ P k) (h5 : Below w0.heap.size w0 w) (hp : ∀ k, P k → k < w.heap.size)
    (hn : QN w0.heap.size w w' q L' c' F) : Du w0 w' q g L' Lr c' P ∧ Std P w w' := by
  obtain ⟨F', q1, q2, q3⟩ := hn
  refine ⟨⟨⟨F', v, n, q1, h2.kept fun k hk => q2.kept k (h2.foot hk).2 (fun hf => (h3 k hf).1 hk), fun k hk => ⟨fun hr => ?_, fun hp2 => ?_⟩, h4⟩, h5.trans (q2.below h5.size fun k hk => (h1.foot hk).1)⟩, q2.size, fun k k1 k2 => q2.kept k k2 (fun hk => (h3 k hk).2 k1)⟩
  · rcases q3 k hk with e | e
    · exact (h3 k e).1 hr
    · have := (h2.foot hr).2; omega
  · rcases q3 k hk with e | e
    · exact (h3 k e).2 hp2
    · have := hp k hp2; omega
theorem Du.nextR {F : Nat → Prop} {v : Value} {n : Nat} {L' : List Wt} (h1 : QB w0.heap.size w q Lp c F) (h2 : RfQ w0.heap.size w g v n Lr) (h3 : ∀ k, F k → ¬ FootR g v k ∧ ¬ P k) (h4 : ∀ k, FootR g v k → ¬ P k) (h5 : Below w0.heap.size w0 w) (hp : ∀ k, P k → k < w.heap.size)
    (hn : RN w0.heap.size w w' g v L') : Du w0 w' q g Lp L' c P ∧ Std P w w' := by
  obtain ⟨v', n', q1, q2, q3⟩ := hn
  refine ⟨⟨⟨F, v', n', h1.kept fun k hk => q2.kept k (h1.foot hk).2 (h3 k hk).1, q1, fun k hk => ⟨fun hr => ?_, (h3 k hk).2⟩, fun k hk hp2 => ?_⟩, h5.trans (q2.below h5.size fun k hk => (h2.foot hk).1)⟩, q2.size, fun k k1 k2 => q2.kept k k2 (fun hk => h4 k hk k1)⟩
  · rcases q3 k hr with e | e
    · exact (h3 k hk).1 e
    · have := (h1.foot hk).2; omega
  · rcases q3 k hk with e | e
    · exact h4 k e hp2
    · have := hp k hp2; omega
theorem du_push (h : Du w0 w q g Lp Lr c P) (hp : ∀ k, P k → k < w.heap.size) (hs : u.ten.size ≤ maxLen) (hc : c + 1 ≤ 1000) :
    Calls Try.prog 10 #[.pointer (some ⟨q, 0, none⟩), wtV u] w fun e w' => e = .returned (.int .i64 (errQ Lp u)) ∧ Du w0 w' q g (pushQ Lp u) Lr (c + 1) P ∧ Std P w w' := by
  obtain ⟨⟨F, v, n, h1, h2, h3, h4⟩, h5⟩ := h
  refine (qb_push h1 hs hc h5.size).mono ?_
  rintro e w' ⟨rfl, hn⟩
  exact ⟨rfl, Du.nextQ h1 h2 h3 h4 h5 hp hn⟩
theorem du_rem (h : Du w0 w q g Lp Lr c P) (hp : ∀ k, P k → k < w.heap.size) (j : Int) (hj : (Lit.int .i64 j).wf = true) :
    Calls Try.prog 17 #[.pointer (some ⟨q, 0, none⟩), .int .i64 j] w fun e w' => e = .returned (.int .i64 (remE Lp j)) ∧ Du w0 w' q g (delQ j Lp) Lr c P ∧ Std P w w' := by
  obtain ⟨⟨F, v, n, h1, h2, h3, h4⟩, h5⟩ := h
  refine (qb_rem h1 j hj).mono ?_
  rintro e w' ⟨rfl, hn⟩
  exact ⟨rfl, Du.nextQ h1 h2 h3 h4 h5 hp hn⟩
theorem du_rpush (h : Du w0 w q g Lp Lr c P) (hs : SrtQ Lr) (hl : Lr.length ≤ 900) (hp : ∀ k, P k → k < w.heap.size) (u : Wt) :
    Calls Try.prog 19 #[.pointer (some ⟨g, 0, none⟩), wtV u] w fun e w' => e = .returned (.int .i64 (errQ Lr u)) ∧ Du w0 w' q g Lp (pushQ Lr u) c P ∧ Std P w w' := by
  obtain ⟨⟨F, v, n, h1, h2, h3, h4⟩, h5⟩ := h
  refine (rpush_g h2 hs (by have := h2.len; omega) u).mono ?_
  rintro e w' ⟨rfl, hn⟩
  exact ⟨rfl, Du.nextR h1 h2 h3 h4 h5 hp hn⟩
theorem du_rrem (h : Du w0 w q g Lp Lr c P) (hs : SrtQ Lr) (hl : Lr.length ≤ 1000) (hp : ∀ k, P k → k < w.heap.size) (j : Int) :
    Calls Try.prog 35 #[.pointer (some ⟨g, 0, none⟩), .int .i64 j] w fun e w' => e = .returned (.int .i64 (remE Lr j)) ∧ Du w0 w' q g Lp (delQ j Lr) c P ∧ Std P w w' := by
  obtain ⟨⟨F, v, n, h1, h2, h3, h4⟩, h5⟩ := h
  refine (rrem_g h2 hs (by have := h2.len; omega) j).mono ?_
  rintro e w' ⟨rfl, hn⟩
  exact ⟨rfl, Du.nextR h1 h2 h3 h4 h5 hp hn⟩
set_option maxHeartbeats 2000000 in
theorem plain_q (a c : Int) (b : ByteArray) (w : World) : Calls Try.prog 20 #[.agg #[.int .i64 a, .string b, .int .i64 c]] w fun e w' => e = .returned (.agg #[.int .i64 a, .string b, .int .i64 c]) ∧ Below w.heap.size w w' := by
  go_enter Try.func20, Try.ntmps20
  go_wp2
  refine ret_row1 rfl (w.heap.size + 1) #[.int .i64 a, .string b, .int .i64 c] 56 _ rfl Try.underlying56 rfl infoR rfl (by apply Exists.intro; refine ⟨?_, ?_⟩; (focus ((repeat (first | (with_reducible assumption) | (with_reducible exact alloc_at _ _) | ((with_reducible apply alloc_at'); (simp; done)) | (with_reducible apply alloc_at_lt) | (with_reducible apply heap_drew_at) | (with_reducible apply heap_drewN_at) | (with_reducible apply heap_setCell_same) | ((with_reducible apply heap_set_ne); (first | omega | (dsimp only; omega) | (simp; done) | (simp; omega))) | (with_reducible apply setRow_at) | ((with_reducible apply setRow_ne); (first | omega | (dsimp only; omega) | (simp; done) | (simp; omega))))))); simp) ⟨rfl, (by repeat (first | with_reducible assumption | with_reducible exact Below.refl _ _ | with_reducible refine Below.drew ?_ | with_reducible refine below_drewN ?_ _ | with_reducible refine below_alloc ?_ _ | with_reducible refine Below.alloc ?_ (by first | omega | (simp; done) | (simp; omega)) _ | with_reducible refine Below.setCell ?_ (by first | omega | (simp; done) | (simp; omega)) _ | with_reducible refine below_setRow ?_ (by first | omega | (simp; done) | (simp; omega)) _))⟩
set_option maxRecDepth 20000 in
set_option maxHeartbeats 4000000 in
theorem same_q {A A2 : Option Addr} {n n2 : Nat} (d d2 : Nat) (h : SlG 3 fW w A n L) (h2 : SlG 3 fW w A2 n2 L) (hn : n ≤ 100000) : Calls Try.prog 21 #[.slice A n d, .slice A2 n2 d2] w fun e w' => e = .returned (.bool true) ∧ Below w.heap.size w w' := by
  obtain rfl : n = n2 := h.1.trans h2.1.symm
  have HS := hid h
  have HT := hid h2
  have HL : Hid (n = L.length) := h.1
  have hnb : (n : Int) ≤ 100000 := by omega
  clear h h2 hn
  go_enter Try.func21, Try.ntmps21
  go_wp2_with fail
  go_loopw [5] (fun iv wr => ∃ i : Nat, i ≤ n ∧ iv = .int .i64 i ∧ Hid (Below w.heap.size w wr)) (fun iv _ => n - (intOf iv).toNat)
  case atStart => exact ⟨0, Nat.zero_le _, rfl, hid (Below.refl _ _)⟩
  case round =>
    obtain ⟨i, hi, rfl, HB⟩ := hrel
    by_cases hin : i < n
    · have HK1 : Hid (i + 1 ≤ n) := hin
      have HMS : Hid (n - (i + 1) < n - i) := by unfold Hid; omega
      have hii : (i : Int) < (n : Int) := by omega
      obtain ⟨x, hx⟩ : ∃ x, L[i]? = some x := ⟨_, List.getElem?_eq_getElem (by have := HL.out; omega)⟩
      obtain ⟨b, off, rfl, hl, hc⟩ := HS.out.one HB.out hx
      obtain ⟨b2, off2, rfl, hl2, hd⟩ := HT.out.one HB.out hx
      have c0 : wr.cell? ⟨b, off + i * 3, none⟩ = some (.int .i64 x.job) := hc 0 (by omega)
      have c1 : wr.cell? ⟨b, off + i * 3 + 1, none⟩ = some (.string x.ten) := hc 1 (by omega)
      have c2 : wr.cell? ⟨b, off + i * 3 + 2, none⟩ = some (.int .i64 x.pri) := hc 2 (by omega)
      have d0 : wr.cell? ⟨b2, off2 + i * 3, none⟩ = some (.int .i64 x.job) := hd 0 (by omega)
      have d1 : wr.cell? ⟨b2, off2 + i * 3 + 1, none⟩ = some (.string x.ten) := hd 1 (by omega)
      have d2 : wr.cell? ⟨b2, off2 + i * 3 + 2, none⟩ = some (.int .i64 x.pri) := hd 2 (by omega)
      have hEq := eqWr x.job x.pri x.ten
      have HPL := hid (plain_q x.job x.pri x.ten)
      have HB2 : Hid (∀ X, Below wr.heap.size wr X → Below w.heap.size w X) := fun X hb => HB.out.trans (hb.mono HB.out.size)
      clear hin hi hx hc hd
      go_upto_region 6 with (fail)
      go_region_held3 (fun w' => Below wr.heap.size wr w' ∧ (∀ b o, b < wr.heap.size → w'.cell? ⟨b, o, none⟩ = wr.cell? ⟨b, o, none⟩) ∧ ∀ b o, b < wr.heap.size → w'.frozen? ⟨b, o, none⟩ = wr.frozen? ⟨b, o, none⟩) (first | ((try go_split_ands); (try dsimp only); refine same_of ?_; (repeat (first | with_reducible assumption | with_reducible exact Below.refl _ _ | with_reducible refine Below.drew ?_ | with_reducible refine below_drewN ?_ _ | with_reducible refine below_alloc ?_ _ | with_reducible refine Below.alloc ?_ (by first | omega | (simp; done) | (simp; omega)) _ | with_reducible refine Below.setCell ?_ (by first | omega | (simp; done) | (simp; omega)) _ | with_reducible refine below_setRow ?_ (by first | omega | (simp; done) | (simp; omega)) _)); done) | ((try go_split_ands); (try dsimp only); refine same_of ?_; (repeat (first | with_reducible refine below_call ?_ hb9 | with_reducible assumption | with_reducible exact Below.refl _ _ | with_reducible refine Below.drew ?_ | with_reducible refine below_alloc ?_ _ | with_reducible refine Below.setCell ?_ (by (try have qz_hb9 := hb9.size); (try simp only [World.size_alloc, World.size_setCell, heap_drew] at qz_hb9); (try (obtain ⟨qy_hb9, -, -⟩ : Below _ _ w9 ∧ _ ∧ _ := by assumption; have qx_hb9 := qy_hb9.size)); first | omega | (dsimp only; omega)) _)); done)) ((go_at_call 20; refine (HPL.out _).mono ?_; rintro e w9 ⟨rfl, hb9⟩; obtain ⟨hc9, hf9⟩ := bcell hb9))
      all_goals
        have hbw : Below wr.heap.size wr w9 := (Below.drew (Below.refl _ _)).trans (hb9.mono (by simp [heap_drew]))
        have HBW := hid (HB2.out _ hbw)
        clear c0 c1 c2 d0 d1 d2 hbw hc9 hf9 hb9
        go_wp2
        go_roundw
        case rel => exact ⟨i + 1, HK1.out, by go_num, HBW⟩
        case measure => have := HMS.out; simp [intOf]; omega
    · have hii : ¬ (i : Int) < (n : Int) := by omega
      clear hi hin
      go_wp2
      go_ret
      exact ⟨rfl, HB.out⟩
end Go.Proofs.Ytingeijodooocaa
