/- ShareTurns' walk. -/
import Derived.Test.YteccpjijlkjneaaShX
namespace Go.Proofs.Yteccpjijlkjneaa
open Go.RowKit Go.WideShapes
theorem recP : RecT 37 24 6 56 Try.prog := recT_of Try.underlying24 (by kernel_rfl) (by kernel_rfl)
theorem SlU.gen {w : World} {A : Option Addr} {n : Nat} {l : List Us} (h : SlU w A n l) : SlG 6 fU w A n l := by
  obtain ⟨h1, h2⟩ := h
  refine ⟨h1, ?_⟩
  rcases h2 with h2 | ⟨b, off, e, hl, hc⟩
  · exact .inl h2
  · refine .inr ⟨b, off, e, hl, fun i x hi c hc6 => ?_⟩
    obtain ⟨q0, q1, q2, q3, q4, q5⟩ := hc i x hi
    match c, hc6 with
    | 0, _ => exact q0
    | 1, _ => exact q1
    | 2, _ => exact q2
    | 3, _ => exact q3
    | 4, _ => exact q4
    | 5, _ => exact q5
theorem SlG.us {w : World} {A : Option Addr} {n : Nat} {l : List Us} (h : SlG 6 fU w A n l) : SlU w A n l := by
  obtain ⟨h1, h2⟩ := h
  refine ⟨h1, ?_⟩
  rcases h2 with h2 | ⟨b, off, e, hl, hc⟩
  · exact .inl h2
  · exact .inr ⟨b, off, e, hl, fun j u hj => ⟨hc j u hj 0 (by omega), hc j u hj 1 (by omega), hc j u hj 2 (by omega), hc j u hj 3 (by omega), hc j u hj 4 (by omega), hc j u hj 5 (by omega)⟩⟩
theorem outK_perm {W : V4} {l l' : List Us} {ks ks' : List (List UInt8)} (p : l.Perm l') (h : OutK W l ks) (h' : OutK W l' ks') : ks = ks' := by
  rcases h with ⟨h1, rfl⟩ | ⟨h1, s, h2, rfl⟩
  · rcases h' with ⟨-, rfl⟩ | ⟨h3, -⟩
    · rfl
    · exact absurd ((errO_perm p).2 h3) h1
  · rcases h' with ⟨h3, -⟩ | ⟨-, s', h4, rfl⟩
    · exact absurd ((errO_perm p).1 h1) h3
    · rw [SrtO.unique h2 ⟨h4.1.trans p.symm, h4.2⟩]
set_option maxRecDepth 100000 in
set_option maxHeartbeats 8000000 in
theorem shareTurns_any (Wa Wb Wc Wd : Int) (A : Option Addr) (n cap : Nat) (l : List Us) (kk : Int) (w : World) (h : SlU w A n l) (hn : n ≤ maxLen) (hk : 0 ≤ kk ∧ kk ≤ 255) (hc : n ≤ cap) :
    Calls Try.prog 4 #[.agg #[.int .i64 Wa, .int .i64 Wb, .int .i64 Wc, .int .i64 Wd], .slice A n cap, .int .u8 kk] w fun e w' => e = .returned (.bool true) ∧ Below w.heap.size w w' := by
  have HS := hid h
  have hnb : (n : Int) ≤ 9223372036854775807 := by unfold maxLen at hn; omega
  have HKK := hid hk
  have HC := hid hc
  clear h hn hk hc
  go_enter Try.func4, Try.ntmps4
  go_upto_region 1 with (fail)
  refine wp_name ?_
  intro w1 hw1
  have b1 : Below w.heap.size w w1 := by rw [hw1]; exact (by repeat (first | with_reducible assumption | with_reducible exact Below.refl _ _ | with_reducible refine Below.drew ?_ | with_reducible refine below_drewN ?_ _ | with_reducible refine below_alloc ?_ _ | with_reducible refine Below.alloc ?_ (by first | omega | (simp; done) | (simp; omega)) _ | with_reducible refine Below.setCell ?_ (by first | omega | (simp; done) | (simp; omega)) _ | with_reducible refine below_setRow ?_ (by first | omega | (simp; done) | (simp; omega)) _))
  have X1 : w1.heap[w.heap.size]? = some (.cells #[.int .i64 Wa, .int .i64 Wb, .int .i64 Wc, .int .i64 Wd] 23 (0, 0)) := by rw [hw1]; exact at_of (by apply Exists.intro; refine ⟨?_, ?_⟩; (focus ((repeat (first | (with_reducible assumption) | (with_reducible exact alloc_at _ _) | ((with_reducible apply alloc_at'); (simp; done)) | (with_reducible apply alloc_at_lt) | (with_reducible apply heap_drew_at) | (with_reducible apply heap_drewN_at) | (with_reducible apply heap_setCell_same) | ((with_reducible apply heap_set_ne); (first | omega | (dsimp only; omega) | (simp; done) | (simp; omega))) | (with_reducible apply setRow_at) | ((with_reducible apply setRow_ne); (first | omega | (dsimp only; omega) | (simp; done) | (simp; omega))))))); simp)
  obtain ⟨bw, hbw⟩ : ∃ x, x = w.heap.size := ⟨_, rfl⟩
  rw [← hbw] at X1 ⊢
  have HX1 := hid X1
  have B1 := hid b1
  clear hw1 b1 hbw X1
  go_wp2_with fail
  refine (awake_s w1).mono ?_
  rintro e w2 ⟨rfl, hb2⟩
  have B2 := hid (B1.out.trans (hb2.mono B1.out.size))
  have HX2 := hid (below_at hb2 (lt_of_at HX1.out) HX1.out)
  clear hb2 B1 HX1
  by_cases h3 : (100 : Int) < (n : Int)
  · go_wp2_with fail
    refine (awake_s w2).mono ?_
    rintro e w3 ⟨rfl, hb3⟩
    have B3 := B2.out.trans (hb3.mono B2.out.size)
    go_wp2
    go_ret
    exact ⟨rfl, B3⟩
  by_cases h0 : n = 0
  · subst h0
    go_wp2_with fail
    refine (awake_s w2).mono ?_
    rintro e w3 ⟨rfl, hb3⟩
    have B3 := B2.out.trans (hb3.mono B2.out.size)
    go_wp2
    go_ret
    exact ⟨rfl, B3⟩
  have HN : Hid (n ≤ 100 ∧ 0 < n) := by unfold Hid; omega
  have h0' : ((n : Int) == 0) = false := by simpa using h0
  have h0i : ¬ (n : Int) = 0 := by omega
  obtain ⟨m, hm⟩ : ∃ m : Nat, (m : Int) = kk % (n : Int) := ⟨(kk % (n : Int)).toNat, by have := Int.emod_nonneg kk (show (n : Int) ≠ 0 by omega); omega⟩
  have hm1 : (m : Int) < (n : Int) := by rw [hm]; exact Int.emod_lt_of_pos _ (by omega)
  have er : kk.tmod (n : Int) = (m : Int) := by rw [Int.tmod_eq_emod_of_nonneg HKK.out.1, hm]
  have er' : IntKind.i64.wrap (m : Int) = (m : Int) := IntWalk.i64_in _ (by omega)
  have ec : IntKind.i64.wrap kk = kk := IntWalk.i64_in _ (by have := HKK.out; omega)
  have HMN : Hid (m < n) := by unfold Hid; omega
  have hs2 := HS.out.below B2.out
  obtain ⟨b, off, rfl, hbl, -⟩ : ∃ b off, A = some ⟨b, off, none⟩ ∧ b < w2.heap.size ∧ True := by
    obtain ⟨q1, rfl | ⟨b, off, e, hl, -⟩⟩ := hs2
    · simp at q1; omega
    · exact ⟨b, off, e, hl, trivial⟩
  have hck : ¬ cap - m = 0 := by have := HC.out; omega
  have hmc : (m : Int) ≤ (cap : Int) := by have := HC.out; omega
  have hmn : (m : Int) ≤ (n : Int) := by omega
  -- the two appends
  obtain ⟨A3, c3, w3, happ3, hown3, hg3, hat3, hb3⟩ := rowR_src (c2 := cap - m) (n := 0) (cap := 0) (A := none) (l := []) (f := fU) recP (by omega) fU_one (World.ownsRow_nil w2 w2.heap.size _ _) (hs2.gen.drop (k := m) (by omega)) (by have := HN.out; omega) (by have := HN.out; omega) (Nat.le_refl _)
  have hs3 := hs2.below hb3
  obtain ⟨A4, c4, w4, happ4, hown4, hg4, hat4, hb4⟩ := rowR_src (c2 := cap) recP (by omega) fU_one hown3 (hs3.gen.take (k := m) (by omega)) (by have := HN.out; omega) (by have := HN.out; omega) hb3.size
  have hb24 : Below w2.heap.size w2 w4 := hb3.trans hb4
  rw [Nat.zero_add] at happ3 happ4 hown4
  have hadd : n - m + m = n := by omega
  rw [hadd] at happ4 hown4
  rw [List.nil_append] at hown4
  have HSO : Hid (SlU w4 A4 n (l.drop m ++ l.take m)) := (SlG.of_row (by omega) hown4).us
  have HSL : Hid (SlU w4 (some ⟨b, off, none⟩) n l) := hs2.below hb24
  have HPE : Hid ((l.drop m ++ l.take m).Perm l) := by
    have := List.perm_append_comm (l₁ := l.drop m) (l₂ := l.take m)
    rw [List.take_append_drop] at this
    exact this
  have B4 := hid (B2.out.trans (hb24.mono B2.out.size))
  have HX4 := hid (below_at hb24 (lt_of_at HX2.out) HX2.out)
  have HAPP3 := hid happ3
  have HAPP4 := hid happ4
  clear happ3 happ4 hown3 hown4 hg3 hg4 hat3 hat4 hb3 hb4 hb24 hs2 hs3 hm hadd B2 HX2
  obtain ⟨y0, y1, y2, y3, -⟩ := four HX4.out
  have hl4 := lt_of_at HX4.out
  have HO4 := hid (order_q (Wa, Wb, Wc, Wd) HSL.out (by have := HN.out; omega) cap)
  go_upto_region 6 with (at_builtin; refine wpList_append_eq rfl _ _ _ rfl rfl rfl HAPP3.out ?_)
  go_upto_region 7 with (at_builtin; refine wpList_append_eq rfl _ _ _ rfl rfl rfl HAPP4.out ?_)
  go_wp2_with fail
  refine HO4.out.mono ?_
  rintro e w5 ⟨⟨ks, A5, c5, rfl, hk5, hs5, -⟩, hb5⟩
  have B5 := hid (B4.out.trans (hb5.mono B4.out.size))
  have HX5 := hid (below_at hb5 hl4 HX4.out)
  have HK5 := hid hk5
  have HS5 := hid hs5
  have HO5 := hid (order_q (Wa, Wb, Wc, Wd) (HSO.out.below hb5) (by have := HN.out; omega) c4)
  clear hb5 hk5 hs5 y0 y1 y2 y3 hl4 B4 HX4 HO4 HAPP3 HAPP4
  obtain ⟨y0, y1, y2, y3, -⟩ := four HX5.out
  have hl5 := lt_of_at HX5.out
  go_wp2_with fail
  refine HO5.out.mono ?_
  rintro e w6 ⟨⟨ks6, A6, c6, rfl, hk6, hs6, -⟩, hb6⟩
  have B6 := hid (B5.out.trans (hb6.mono B5.out.size))
  obtain rfl := outK_perm HPE.out hk6 HK5.out
  have HSM := hid (same_any c5 c6 (HS5.out.below hb6) hs6 (by have := HK5.out.len; have := HS.out.1; have := HN.out; omega))
  have hee := errO_perm (W := (Wa, Wb, Wc, Wd)) HPE.out
  obtain ⟨z1, hz1⟩ : ∃ z, z = errO (Wa, Wb, Wc, Wd) l := ⟨_, rfl⟩
  obtain ⟨z2, hz2⟩ : ∃ z, z = errO (Wa, Wb, Wc, Wd) (l.drop m ++ l.take m) := ⟨_, rfl⟩
  rw [← hz1, ← hz2] at hee
  rw [← hz1, ← hz2]
  have heq : (z1 == 0) = (z2 == 0) := by
    by_cases q : z1 = 0
    · rw [hee.2 q, q]
    · have q2 : ¬ z2 = 0 := fun e => q (hee.1 e)
      rw [beq_eq_false_iff_ne.2 q, beq_eq_false_iff_ne.2 q2]
  obtain ⟨t, ht⟩ : ∃ t, t = (z2 == 0) := ⟨_, rfl⟩
  have ht1 : (z1 == 0) = t := by rw [heq, ht]
  have ht2 : (z2 == 0) = t := ht.symm
  have htt : (t == t) = true := by simp
  clear hb6 hk6 hs6 y0 y1 y2 y3 hl5 hee hz1 hz2 heq ht HO5 HX5 B5 HK5 HS5
  cases t
  all_goals
    go_wp2_with fail
    refine HSM.out.mono ?_
    rintro e w7 ⟨rfl, hb7⟩
    have B7 := hid (B6.out.trans (hb7.mono B6.out.size))
    clear hb7
    go_wp2
    go_ret
    exact ⟨by first | rfl | simp, B7.out⟩
end Go.Proofs.Yteccpjijlkjneaa
