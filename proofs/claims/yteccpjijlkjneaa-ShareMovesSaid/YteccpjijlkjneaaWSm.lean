/- ShareMoves' walk. -/
import Derived.Test.YteccpjijlkjneaaShM
import Derived.Test.YteccpjijlkjneaaVec3
namespace Go.Proofs.Yteccpjijlkjneaa
open Go.RowKit Go.WideShapes
theorem then_nm {K : Act → World → Prop} {Q : Exit → Act → World → Prop} {x : Exit} {a : Act} {w : World} (h : ∀ w2, w2 = w → Exit.then K Q x a w2) : Exit.then K Q x a w := h w rfl
abbrev rU (t : List Us) (u : Us) : List Value := flatR 6 fU (u :: t)
theorem add_form (a b c d p q r o : Int) : (addR (a, b, c, d) (p, q, r, o)).2 = 0 → formedB (a + p) (b + q) (c + r) (d + o) = true ∧ (0 ≤ p ∧ 0 ≤ q ∧ 0 ≤ r ∧ 0 ≤ o) ∧ (addR (a, b, c, d) (p, q, r, o)).1 = (a + p, b + q, c + r, d + o) := by
  intro h
  by_cases h1 : okV (a, b, c, d) = true
  · by_cases h2 : okV (p, q, r, o) = true
    · by_cases h3 : okV (addV (a, b, c, d) (p, q, r, o)) = true
      · rw [addR_ok h1 h2 h3]
        have := formed_bd h2
        simp only at this
        exact ⟨h3, by omega, rfl⟩
      · rw [addR_over h1 h2 (by simpa using h3)] at h
        simp at h
    · rw [addR_form (by simp [h2])] at h
      simp at h
  · rw [addR_form (by simp [h1])] at h
    simp at h
set_option maxRecDepth 100000 in
set_option maxHeartbeats 16000000 in
theorem shareMoves_any (Wa Wb Wc Wd : Int) (A : Option Addr) (n cap : Nat) (l : List Us) (Ma Mb Mc Md : Int) (w : World) (h : SlU w A n l) (hn : n ≤ maxLen) :
    Calls Try.prog 5 #[.agg #[.int .i64 Wa, .int .i64 Wb, .int .i64 Wc, .int .i64 Wd], .slice A n cap, .agg #[.int .i64 Ma, .int .i64 Mb, .int .i64 Mc, .int .i64 Md]] w fun e w' => e = .returned (.bool true) ∧ Below w.heap.size w w' := by
  have HS := hid h
  have hnb : (n : Int) ≤ 9223372036854775807 := by unfold maxLen at hn; omega
  clear h hn
  go_enter Try.func5, Try.ntmps5
  go_upto_region 1 with (fail)
  refine wp_name ?_
  intro w1 hw1
  have b1 : Below w.heap.size w w1 := by rw [hw1]; exact (by repeat (first | with_reducible assumption | with_reducible exact Below.refl _ _ | with_reducible refine Below.drew ?_ | with_reducible refine below_drewN ?_ _ | with_reducible refine below_alloc ?_ _ | with_reducible refine Below.alloc ?_ (by first | omega | (simp; done) | (simp; omega)) _ | with_reducible refine Below.setCell ?_ (by first | omega | (simp; done) | (simp; omega)) _ | with_reducible refine below_setRow ?_ (by first | omega | (simp; done) | (simp; omega)) _))
  have X1 : w1.heap[w.heap.size]? = some (.cells #[.int .i64 Wa, .int .i64 Wb, .int .i64 Wc, .int .i64 Wd] 23 (0, 0)) := by rw [hw1]; exact at_of (by apply Exists.intro; refine ⟨?_, ?_⟩; (focus ((repeat (first | (with_reducible assumption) | (with_reducible exact alloc_at _ _) | ((with_reducible apply alloc_at'); (simp; done)) | (with_reducible apply alloc_at_lt) | (with_reducible apply heap_drew_at) | (with_reducible apply heap_drewN_at) | (with_reducible apply heap_setCell_same) | ((with_reducible apply heap_set_ne); (first | omega | (dsimp only; omega) | (simp; done) | (simp; omega))) | (with_reducible apply setRow_at) | ((with_reducible apply setRow_ne); (first | omega | (dsimp only; omega) | (simp; done) | (simp; omega))))))); simp)
  have Y1 : w1.heap[w.heap.size + 1]? = some (.cells #[.int .i64 Ma, .int .i64 Mb, .int .i64 Mc, .int .i64 Md] 23 (0, 0)) := by rw [hw1]; exact at_of (by apply Exists.intro; refine ⟨?_, ?_⟩; (focus ((repeat (first | (with_reducible assumption) | (with_reducible exact alloc_at _ _) | ((with_reducible apply alloc_at'); (simp; done)) | (with_reducible apply alloc_at_lt) | (with_reducible apply heap_drew_at) | (with_reducible apply heap_drewN_at) | (with_reducible apply heap_setCell_same) | ((with_reducible apply heap_set_ne); (first | omega | (dsimp only; omega) | (simp; done) | (simp; omega))) | (with_reducible apply setRow_at) | ((with_reducible apply setRow_ne); (first | omega | (dsimp only; omega) | (simp; done) | (simp; omega))))))); simp)
  obtain ⟨bw, hbw⟩ : ∃ x, x = w.heap.size := ⟨_, rfl⟩
  rw [← hbw] at X1 Y1 ⊢
  obtain ⟨bm, hbm⟩ : ∃ x, x = bw + 1 := ⟨_, rfl⟩
  rw [← hbm] at Y1
  try rw [← hbm]
  have HBX : Hid (∀ X, Below w1.heap.size w1 X → X.heap[bw]? = some (.cells #[.int .i64 Wa, .int .i64 Wb, .int .i64 Wc, .int .i64 Wd] 23 (0, 0)) ∧ X.heap[bm]? = some (.cells #[.int .i64 Ma, .int .i64 Mb, .int .i64 Mc, .int .i64 Md] 23 (0, 0)) ∧ Below w.heap.size w X) := fun X hb => ⟨below_at hb (lt_of_at X1) X1, below_at hb (lt_of_at Y1) Y1, b1.trans (hb.mono b1.size)⟩
  have HSL1 := hid (HS.out.below b1)
  clear hw1 b1 hbw hbm X1 Y1
  go_wp2_with fail
  refine (awake_s w1).mono ?_
  rintro e w2 ⟨rfl, hb2⟩
  have B2 := hid hb2
  clear hb2
  by_cases h3 : (100 : Int) < (n : Int)
  · go_wp2_with fail
    refine (awake_s w2).mono ?_
    rintro e w3 ⟨rfl, hb3⟩
    have B3 := (HBX.out w3 (B2.out.trans (hb3.mono B2.out.size))).2.2
    go_wp2
    go_ret
    exact ⟨rfl, B3⟩
  by_cases h0 : n = 0
  · subst h0
    go_wp2_with fail
    refine (awake_s w2).mono ?_
    rintro e w3 ⟨rfl, hb3⟩
    have B3 := (HBX.out w3 (B2.out.trans (hb3.mono B2.out.size))).2.2
    go_wp2
    go_ret
    exact ⟨rfl, B3⟩
  have HN : Hid (n ≤ 100 ∧ 0 < n) := by unfold Hid; omega
  have h0' : ((n : Int) == 0) = false := by simpa using h0
  have h0i : ¬ (n : Int) = 0 := by omega
  have h1i : (0 : Int) < (n : Int) := by omega
  have h1n : 0 < n := by omega
  obtain ⟨u, t, rfl⟩ : ∃ u t, l = u :: t := by
    cases l with
    | nil => have := HS.out.1; simp at this; omega
    | cons u t => exact ⟨u, t, rfl⟩
  obtain ⟨W, hW⟩ : ∃ W : V4, W = (Wa, Wb, Wc, Wd) := ⟨_, rfl⟩
  have hvI : vI W = #[.int .i64 Wa, .int .i64 Wb, .int .i64 Wc, .int .i64 Wd] := by rw [hW]
  have HORD : Hid (∀ X A n l c, SlU X A n l → n ≤ 1000 → Calls Try.prog 9 #[.agg #[.int .i64 Wa, .int .i64 Wb, .int .i64 Wc, .int .i64 Wd], .slice A n c] X fun e w' => (∃ ks A c, e = .returned (.tuple #[.slice A ks.length c, .int .i64 (errO W l)]) ∧ OutK W l ks ∧ SlN w' A ks.length ks ∧ ks.length ≤ c) ∧ Below X.heap.size X w') := fun X A n l c h h2 => by
    have := order_c W h h2 c
    rw [hvI] at this
    exact this
  clear hW hvI h0
  have HSL2 := hid (HSL1.out.below B2.out)
  have HOR := hid (HORD.out w2 A n (u :: t) cap HSL2.out (by have := HN.out; omega))
  obtain ⟨X2, -, -⟩ := HBX.out w2 B2.out
  obtain ⟨y0, y1, y2, y3, -⟩ := four X2
  have hl2 := lt_of_at X2
  obtain ⟨z, hz⟩ : ∃ z, z = errO W (u :: t) := ⟨_, rfl⟩
  rw [← hz] at HOR
  have HZ := hid hz
  clear hz X2
  go_wp2_with fail
  refine HOR.out.mono ?_
  rintro e w3 ⟨⟨ks, A3, c3, rfl, hk3, hs3, -⟩, hb3⟩
  have B3 := hid (B2.out.trans (hb3.mono B2.out.size))
  have HK3 := hid hk3
  have HS3 := hid hs3
  have hkl : ks.length ≤ 100 := by have := hk3.len; have := HS.out.1; have := HN.out; simp at *; omega
  have hkb : (ks.length : Int) ≤ 100 := by omega
  have HKL := hid hkl
  clear hb3 HOR hk3 hs3 y0 y1 y2 y3 hl2 HSL2 B2 hkl
  by_cases hz0 : z = 0
  case neg =>
    have hz1 : (z == 0) = false := by simpa using hz0
    have hz2 : (z != 0) = true := by simpa using hz0
    have hk0 : ks = [] := by
      rcases HK3.out with ⟨-, h⟩ | ⟨h, -⟩
      · exact h
      · exact absurd (HZ.out.trans h) hz0
    subst hk0
    have FIN := hid (HBX.out w3 B3.out).2.2
    clear hz0 hkb
    go_wp2
    go_ret
    exact ⟨by first | rfl | simp, FIN.out⟩
  subst hz0
  have HSU : Hid ((sh W u).2 = 0) := (errO_zero.1 HZ.out.symm).1 u (by simp)
  have hs3u := HSL1.out.below B3.out
  obtain ⟨b, off, rfl, hbl, c0, c1, c2, c3', c4, c5⟩ := hs3u.one (Below.refl _ _) (show (u :: t)[0]? = some u from rfl)
  rw [Nat.zero_mul, Nat.add_zero] at c0 c1 c2 c3' c4 c5
  have HPL := hid (place_any HS3.out (by have := HKL.out; omega) c3 u.name)
  have HCL : Hid (∀ X, Below w3.heap.size w3 X → b < X.heap.size ∧ X.cell? ⟨b, off, none⟩ = some (.string u.name) ∧ X.cell? ⟨b, off + 1, none⟩ = some (.int .i64 u.wt) ∧ X.cell? ⟨b, off + 2, none⟩ = some (.int .i64 u.a) ∧ X.cell? ⟨b, off + 3, none⟩ = some (.int .i64 u.b) ∧ X.cell? ⟨b, off + 4, none⟩ = some (.int .i64 u.c) ∧ X.cell? ⟨b, off + 5, none⟩ = some (.int .i64 u.d)) := fun X hb => ⟨Nat.lt_of_lt_of_le hbl hb.size, (hb.cell hbl).trans c0, (hb.cell hbl).trans c1, (hb.cell hbl).trans c2, (hb.cell hbl).trans c3', (hb.cell hbl).trans c4, (hb.cell hbl).trans c5⟩
  obtain ⟨at_, hat⟩ : ∃ x, x = (if ky u.name ∈ ks then ((ks.idxOf (ky u.name) : Nat) : Int) else -1) := ⟨_, rfl⟩
  rw [← hat] at HPL
  have HAT := hid hat
  clear hat
  go_wp2_with fail
  refine HPL.out.mono ?_
  rintro e w4 ⟨rfl, hb4⟩
  have B34 := hid hb4
  clear hb4 c0 c1 c2 c3' c4 c5 hbl HPL
  -- other: a row of its own
  have hs4 := hs3u.below B34.out
  obtain ⟨A5, c5, w5, happ, hown, hg5, hat5, hb5⟩ := rowR_src (c2 := cap) (n := 0) (cap := 0) (A := none) (l := []) (f := fU) recP (by omega) fU_one (World.ownsRow_nil w4 w4.heap.size _ _) hs4.gen (by have := HN.out; omega) (by have := HN.out; omega) (Nat.le_refl _)
  rw [Nat.zero_add] at happ hown
  rw [List.nil_append] at hown
  obtain ⟨g, cg, e, hBg, hgl, -, -⟩ := rowR_cells hown (by have := HN.out; omega)
  injection e with e1 e2 e3
  subst e1 e3
  have HAPP := hid happ
  have HOWN := hid hown
  have HBG : Hid (w4.heap.size ≤ g) := hBg
  have B35 : Hid (Below w3.heap.size w3 w5) := B34.out.trans (hb5.mono B34.out.size)
  have HZ45 : Hid (w3.heap.size ≤ w4.heap.size) := B34.out.size
  have B45 := hid hb5
  clear happ hown hg5 hat5 hb5 hBg hgl hs4 hs3u
  obtain ⟨⟨⟨s0, s1, s2, s3⟩, f⟩, hsum⟩ : ∃ r, addR (u.a, u.b, u.c, u.d) (Ma, Mb, Mc, Md) = r := ⟨_, rfl⟩
  have HSUM := hid hsum
  have HAD : Hid (∀ X, Calls Try.prog 14 #[.agg #[.int .i64 u.a, .int .i64 u.b, .int .i64 u.c, .int .i64 u.d], .agg #[.int .i64 Ma, .int .i64 Mb, .int .i64 Mc, .int .i64 Md]] X fun e w' => e = .returned (.tuple #[.agg #[.int .i64 s0, .int .i64 s1, .int .i64 s2, .int .i64 s3], .int .i64 f]) ∧ Below X.heap.size X w') := fun X => by
    have := radd_any u.a u.b u.c u.d Ma Mb Mc Md X
    rw [hsum] at this
    exact this
  obtain ⟨hbl, c0, c1, c2, c3', c4, c5'⟩ := HCL.out w5 B35.out
  obtain ⟨-, YM, -⟩ := HBX.out w5 (B3.out.trans (B35.out.mono B3.out.size))
  obtain ⟨m0, m1, m2, m3, -⟩ := four YM
  have hlm := lt_of_at YM
  clear hsum YM
  go_upto_region 10 with (at_builtin; refine wpList_append_eq rfl _ _ _ rfl rfl rfl HAPP.out ?_)
  go_region_held3 (fun w' => Below w5.heap.size w5 w' ∧ (∀ b o, b < w5.heap.size → w'.cell? ⟨b, o, none⟩ = w5.cell? ⟨b, o, none⟩) ∧ ∀ b o, b < w5.heap.size → w'.frozen? ⟨b, o, none⟩ = w5.frozen? ⟨b, o, none⟩) (first | ((try go_split_ands); (try dsimp only); refine same_of ?_; (repeat (first | with_reducible assumption | with_reducible exact Below.refl _ _ | with_reducible refine Below.drew ?_ | with_reducible refine below_drewN ?_ _ | with_reducible refine below_alloc ?_ _ | with_reducible refine Below.alloc ?_ (by first | omega | (simp; done) | (simp; omega)) _ | with_reducible refine Below.setCell ?_ (by first | omega | (simp; done) | (simp; omega)) _ | with_reducible refine below_setRow ?_ (by first | omega | (simp; done) | (simp; omega)) _)); done) | ((try go_split_ands); (try dsimp only); refine same_of ?_; (repeat (first | with_reducible refine below_call ?_ hb6 | with_reducible assumption | with_reducible exact Below.refl _ _ | with_reducible refine Below.drew ?_ | with_reducible refine below_alloc ?_ _ | with_reducible refine Below.setCell ?_ (by (try have qz_hb6 := hb6.size); (try simp only [World.size_alloc, World.size_setCell, heap_drew] at qz_hb6); (try (obtain ⟨qy_hb6, -, -⟩ : Below _ _ w6 ∧ _ ∧ _ := by assumption; have qx_hb6 := qy_hb6.size)); first | omega | (dsimp only; omega)) _)); done)) ((go_at_call 14; refine (HAD.out _).mono ?_; rintro e w6 ⟨rfl, hb6⟩; obtain ⟨hc6, hf6⟩ := bcell hb6))
  all_goals
    obtain ⟨hbS, -, -⟩ : Below w5.heap.size w5 _ ∧ _ ∧ _ := by assumption
    refine then_nm ?_
    intro w7 hw7
    have B57 : Below w5.heap.size w5 w7 := by rw [hw7]; exact hbS
    first
    | (have XS : w7.heap[w6.heap.size]? = some (.cells #[.int .i64 s0, .int .i64 s1, .int .i64 s2, .int .i64 s3] 23 (0, 0)) := by rw [hw7]; with_reducible exact alloc_at _ _
       obtain ⟨bs, hbs⟩ : ∃ bs, bs = w6.heap.size := ⟨_, rfl⟩
       have hbsl : w5.heap.size ≤ bs := by rw [hbs]; exact Nat.le_trans (by simp [heap_drew]) hb6.size
       rw [← hbs] at XS ⊢
       clear hbs)
    | (have XS : w7.heap[w5.heap.size]? = some (.cells #[.int .i64 s0, .int .i64 s1, .int .i64 s2, .int .i64 s3] 23 (0, 0)) := by rw [hw7]; exact at_of (by apply Exists.intro; refine ⟨?_, ?_⟩; (focus ((repeat (first | ((with_reducible refine below_at hb6 ?_ ?_); (focus (first | omega | (dsimp only; omega) | (simp; done) | (simp; omega)))) | (with_reducible assumption) | (with_reducible exact alloc_at _ _) | ((with_reducible apply alloc_at'); (simp; done)) | (with_reducible apply alloc_at_lt) | (with_reducible apply heap_drew_at) | (with_reducible apply heap_drewN_at) | (with_reducible apply heap_setCell_same) | ((with_reducible apply heap_set_ne); (first | omega | (dsimp only; omega) | (simp; done) | (simp; omega))) | (with_reducible apply setRow_at) | ((with_reducible apply setRow_ne); (first | omega | (dsimp only; omega) | (simp; done) | (simp; omega))))))); simp)
       obtain ⟨bs, hbs⟩ : ∃ bs, bs = w5.heap.size := ⟨_, rfl⟩
       have hbsl : w5.heap.size ≤ bs := by rw [hbs]; exact Nat.le_refl _
       rw [← hbs] at XS ⊢
       clear hbs)
    have HXS := hid XS
    have HBS := hid hbsl
    have HROW : Hid (w7.ownsRow w4.heap.size 37 6 (.slice (some ⟨g, 0, none⟩) n c5) n (flatR 6 fU (u :: t))) := rowR_below HOWN.out B57
    have B37 : Hid (Below w3.heap.size w3 w7) := B35.out.trans (B57.mono B35.out.size)
    clear hw7 B57 hbS hc6 hf6 hb6 c0 c1 c2 c3' c4 c5' m0 m1 m2 m3 hlm hbl HAD HAPP B45 B35 XS hbsl HOWN
    obtain ⟨-, -, hm, -⟩ := moves_law HZ.out.symm HK3.out HSU.out rfl HK3.out
    have hatv : at_ = ((ks.idxOf (ky u.name) : Nat) : Int) := by rw [HAT.out, if_pos hm]
    subst hatv
    obtain ⟨i0, hi0⟩ : ∃ i, i = ks.idxOf (ky u.name) := ⟨_, rfl⟩
    rw [← hi0] at HAT ⊢
    have HI0 := hid hi0
    obtain ⟨m, hm9⟩ : ∃ m, m = ks.length := ⟨_, rfl⟩
    rw [← hm9] at hkb HS3 HKL ⊢
    have HM9 := hid hm9
    clear hm hi0 hm9
    by_cases hf : f = 0
    case' pos =>
      subst hf
      obtain ⟨hform, hpos, hsv⟩ := add_form u.a u.b u.c u.d Ma Mb Mc Md (by rw [HSUM.out])
      rw [HSUM.out] at hsv
      simp only [Prod.mk.injEq] at hsv
      obtain ⟨rfl, rfl, rfl, rfl⟩ := hsv
      obtain ⟨hok1, hle1⟩ := sh_more HSU.out Ma Mb Mc Md hpos.1 hpos.2.1 hpos.2.2.1 hpos.2.2.2 hform
      obtain ⟨u1, hu1⟩ : ∃ u1 : Us, u1 = ⟨u.name, u.wt, u.a + Ma, u.b + Mb, u.c + Mc, u.d + Md⟩ := ⟨_, rfl⟩
      rw [← hu1] at hok1 hle1
      obtain ⟨v0, v1, v2, v3, -⟩ := four HXS.out
      have hls := lt_of_at HXS.out
      obtain ⟨g2, cp2, e, hBg2, hgl2, hgf2, hgc2⟩ := rowR_cells HROW.out (by omega)
      injection e with e1 e2 e3
      injection e1 with e1
      injection e1 with e1
      subst e1 e3
      have q2 : w7.cell? ⟨g, 2, none⟩ = some (.int .i64 u.a) := hgc2 0 u rfl 2 (by omega)
      have q3 : w7.cell? ⟨g, 3, none⟩ = some (.int .i64 u.b) := hgc2 0 u rfl 3 (by omega)
      have q4 : w7.cell? ⟨g, 4, none⟩ = some (.int .i64 u.c) := hgc2 0 u rfl 4 (by omega)
      have q5 : w7.cell? ⟨g, 5, none⟩ = some (.int .i64 u.d) := hgc2 0 u rfl 5 (by omega)
      have f2 := hgf2 2
      have f3 := hgf2 3
      have f4 := hgf2 4
      have f5 := hgf2 5
      have hst := rowR_sets [.int .i64 (u.a + Ma), .int .i64 (u.b + Mb), .int .i64 (u.c + Mc), .int .i64 (u.d + Md)] (o := 0 * 6 + 2) HROW.out
      rw [flatR_part (x := u) (x' := u1) (i := 0) (o := 2) rfl (by simp) (fun c hc => by
        rw [hu1]
        match c, hc with
        | 0, _ | 1, _ | 2, _ | 3, _ | 4, _ | 5, _ => simp [fU])] at hst
      have hst1 : (setsW w7 g 2 [.int .i64 (u.a + Ma), .int .i64 (u.b + Mb), .int .i64 (u.c + Mc), .int .i64 (u.d + Md)]).ownsRow w4.heap.size 37 6 (.slice (some ⟨g, 0, none⟩) n c5) n (flatR 6 fU (u1 :: t)) := hst.1
      have hst2 : Below w4.heap.size w7 (setsW w7 g 2 [.int .i64 (u.a + Ma), .int .i64 (u.b + Mb), .int .i64 (u.c + Mc), .int .i64 (u.d + Md)]) := Below.grown (Below.refl _ _) hst.2 (Nat.le_trans HBG.out (Nat.le_of_lt hgl2)) (fun j e => by injection e with e; have := HBG.out; omega)
      have HST1 := hid hst1
      have HST2 := hid hst2
      have HU1 := hid hu1
      have HOK1 := hid hok1
      have HLE1 := hid hle1
      clear hst hst1 hst2 hgc2 hgf2 hform hpos hu1 hok1 hle1
      go_upto_region 13 with (fail)
      refine wp_name ?_
      intro w8 hw8
      have HR8 : Hid (w8.ownsRow w4.heap.size 37 6 (.slice (some ⟨g, 0, none⟩) n c5) n (flatR 6 fU (u1 :: t))) := by rw [hw8]; exact HST1.out
      have B38 : Hid (Below w3.heap.size w3 w8) := by rw [hw8]; exact B37.out.trans (HST2.out.mono HZ45.out)
      clear hw8 HST1 HST2 v0 v1 v2 v3 hls q2 q3 q4 q5 f2 f3 f4 f5 HROW B37 hBg2 hgl2 HXS
      obtain ⟨X8, -, -⟩ := HBX.out w8 (B3.out.trans (B38.out.mono B3.out.size))
      obtain ⟨y0, y1, y2, y3, -⟩ := four X8
      have hl8 := lt_of_at X8
      have HOR8 := hid (HORD.out w8 _ n (u1 :: t) c5 (SlG.of_row (by omega) HR8.out).us (by have := HN.out; omega))
      clear X8
      go_wp2_with fail
      refine HOR8.out.mono ?_
      rintro e w9 ⟨⟨ks1, A9, c9, rfl, hk9, hs9, -⟩, hb9⟩
      obtain ⟨he1, hlen, hm, hm1, hmono, -⟩ := moves_law HZ.out.symm HK3.out HOK1.out (by rw [HU1.out]) hk9
      rw [he1]
      have hle := hmono HLE1.out
      rw [hlen, ← HM9.out] at hs9 ⊢
      have HPL9 := hid (place_any hs9 (by have := HKL.out; omega) c9 u.name)
      rw [if_pos hm1] at HPL9
      obtain ⟨i1, hi1⟩ : ∃ i, i = ks1.idxOf (ky u.name) := ⟨_, rfl⟩
      rw [← hi1] at hle HPL9
      rw [← HI0.out] at hle
      have B39 : Hid (Below w3.heap.size w3 w9) := B38.out.trans (hb9.mono B38.out.size)
      have HR9 : Hid (w9.ownsRow w4.heap.size 37 6 (.slice (some ⟨g, 0, none⟩) n c5) n (flatR 6 fU (u1 :: t))) := rowR_below HR8.out hb9
      have hmm : ((m : Int) == (m : Int)) = true := by simp
      have hmm2 : ((m : Int) != (m : Int)) = false := by simp
      have hlt : ¬ (i1 : Int) < (i0 : Int) := by omega
      have hlt0 : ¬ (i0 : Int) < 0 := by omega
      clear he1 hlen hm hm1 hmono hle hk9 hs9 hb9 y0 y1 y2 y3 hl8 HOR8 HR8 B38 hi1
      go_wp2_with fail
      refine HPL9.out.mono ?_
      rintro e w10 ⟨rfl, hb10⟩
      have B310 : Hid (Below w3.heap.size w3 w10) := B39.out.trans (hb10.mono B39.out.size)
      have HR10 : Hid (w10.ownsRow w4.heap.size 37 6 (.slice (some ⟨g, 0, none⟩) n c5) n (flatR 6 fU (u1 :: t))) := rowR_below HR9.out hb10
      clear hb10 HPL9 B39 HR9
      have HRQ := HR10
      have B3Q := B310
      go_upto_region 16 with (fail)
      clear HR10 B310 hmm hmm2 hlt hlt0
    case' neg =>
      have hf1 : (f == 0) = false := by simpa using hf
      have HRQ := HROW
      have B3Q := B37
      obtain ⟨u1, hu1⟩ : ∃ u1 : Us, u1 = u := ⟨_, rfl⟩
      rw [← hu1] at HRQ
      clear HROW B37 HXS
      go_upto_region 16 with (fail)
    all_goals
      rename World => wq
      obtain ⟨hbl, c0, c1, c2, c3', c4, c5'⟩ := HCL.out wq B3Q.out
      obtain ⟨g2, cp2, e, hBg2, hgl2, hgf2, hgc2⟩ := rowR_cells HRQ.out (by omega)
      injection e with e1 e2 e3
      injection e1 with e1
      injection e1 with e1
      subst e1 e3
      have q0 : wq.cell? ⟨g, 0, none⟩ = some (.string u1.name) := hgc2 0 u1 rfl 0 (by omega)
      have q1 : wq.cell? ⟨g, 1, none⟩ = some (.int .i64 u1.wt) := hgc2 0 u1 rfl 1 (by omega)
      have q2 : wq.cell? ⟨g, 2, none⟩ = some (.int .i64 u1.a) := hgc2 0 u1 rfl 2 (by omega)
      have q3 : wq.cell? ⟨g, 3, none⟩ = some (.int .i64 u1.b) := hgc2 0 u1 rfl 3 (by omega)
      have q4 : wq.cell? ⟨g, 4, none⟩ = some (.int .i64 u1.c) := hgc2 0 u1 rfl 4 (by omega)
      have q5 : wq.cell? ⟨g, 5, none⟩ = some (.int .i64 u1.d) := hgc2 0 u1 rfl 5 (by omega)
      have f0 := hgf2 0
      have f1 := hgf2 1
      have f2 := hgf2 2
      have f3 := hgf2 3
      have f4 := hgf2 4
      have f5 := hgf2 5
      have hst := rowR_set HRQ.out (i := 0) (by simp) u
      have hst1 : (stU wq g 0 u).ownsRow w4.heap.size 37 6 (.slice (some ⟨g, 0, none⟩) n c5) n (flatR 6 fU (u :: t)) := hst.1
      have hst2 : Below w4.heap.size wq (stU wq g 0 u) := Below.grown (Below.refl _ _) hst.2 (Nat.le_trans HBG.out (Nat.le_of_lt hgl2)) (fun j e => by injection e with e; have := HBG.out; omega)
      have HST1 := hid hst1
      have HST2 := hid hst2
      clear hst hst1 hst2 hgc2 hgf2
      go_upto_region 17 with (fail)
      refine wp_name ?_
      intro w11 hw11
      have HR11 : Hid (w11.ownsRow w4.heap.size 37 6 (.slice (some ⟨g, 0, none⟩) n c5) n (flatR 6 fU (u :: t))) := by rw [hw11]; exact HST1.out
      have B311 : Hid (Below w3.heap.size w3 w11) := by rw [hw11]; exact B3Q.out.trans (HST2.out.mono HZ45.out)
      clear hw11 HST1 HST2 c0 c1 c2 c3' c4 c5' q0 q1 q2 q3 q4 q5 f0 f1 f2 f3 f4 f5 HRQ B3Q hBg2 hgl2 hbl
      obtain ⟨hw1, hw2, hok2, hle2⟩ := sh_weight HSU.out
      obtain ⟨hbl, -, c1, -⟩ := HCL.out w11 B311.out
      obtain ⟨g2, cp2, e, hBg2, hgl2, hgf2, hgc2⟩ := rowR_cells HR11.out (by omega)
      injection e with e1 e2 e3
      injection e1 with e1
      injection e1 with e1
      subst e1 e3
      have q1 : w11.cell? ⟨g, 1, none⟩ = some (.int .i64 u.wt) := hgc2 0 u rfl 1 (by omega)
      have f1 := hgf2 1
      obtain ⟨nw, hnw⟩ : ∃ nw, nw = min (u.wt + 1) 1000 := ⟨_, rfl⟩
      obtain ⟨u2, hu2⟩ : ∃ u2 : Us, u2 = ⟨u.name, min (u.wt + 1) 1000, u.a, u.b, u.c, u.d⟩ := ⟨_, rfl⟩
      rw [← hu2] at hok2 hle2
      have hst := rowR_sets [.int .i64 nw] (o := 0 * 6 + 1) HR11.out
      rw [flatR_part (x := u) (x' := u2) (i := 0) (o := 1) rfl (by simp) (fun c hc => by
        rw [hu2, hnw]
        match c, hc with
        | 0, _ | 1, _ | 2, _ | 3, _ | 4, _ | 5, _ => simp [fU])] at hst
      have hst1 : (w11.setCell ⟨g, 1, none⟩ (.int .i64 nw)).ownsRow w4.heap.size 37 6 (.slice (some ⟨g, 0, none⟩) n c5) n (flatR 6 fU (u2 :: t)) := hst.1
      have hst2 : Below w4.heap.size w11 (w11.setCell ⟨g, 1, none⟩ (.int .i64 nw)) := Below.grown (Below.refl _ _) hst.2 (Nat.le_trans HBG.out (Nat.le_of_lt hgl2)) (fun j e => by injection e with e; have := HBG.out; omega)
      have HST1 := hid hst1
      have HST2 := hid hst2
      have HU2 := hid hu2
      have HOK2 := hid hok2
      have HLE2 := hid hle2
      have HNW := hid hnw
      have iw : IntKind.i64.wrap (u.wt + 1) = u.wt + 1 := IntWalk.i64_in _ (by omega)
      clear hst hst1 hst2 hgc2 hgf2 hu2 hok2 hle2
      go_upto_region 18 with (fail)
      refine wp_name ?_
      intro w12 hw12
      rw [← hnw] at hw12
      have HR12 : Hid (w12.ownsRow w4.heap.size 37 6 (.slice (some ⟨g, 0, none⟩) n c5) n (flatR 6 fU (u2 :: t))) := by rw [hw12]; exact HST1.out
      have B312 : Hid (Below w3.heap.size w3 w12) := by rw [hw12]; exact B311.out.trans (HST2.out.mono HZ45.out)
      clear hw12 HST1 HST2 c1 q1 f1 HR11 B311 hBg2 hgl2 hbl iw hnw hw1 hw2
      obtain ⟨X8, -, -⟩ := HBX.out w12 (B3.out.trans (B312.out.mono B3.out.size))
      obtain ⟨y0, y1, y2, y3, -⟩ := four X8
      have hl8 := lt_of_at X8
      have HOR8 := hid (HORD.out w12 _ n (u2 :: t) c5 (SlG.of_row (by omega) HR12.out).us (by have := HN.out; omega))
      clear X8
      go_wp2_with fail
      refine HOR8.out.mono ?_
      rintro e w13 ⟨⟨ks2, A13, c13, rfl, hk13, hs13, -⟩, hb13⟩
      obtain ⟨he2, hlen, hm, hm2, -, hmono⟩ := moves_law HZ.out.symm HK3.out HOK2.out (by rw [HU2.out]) hk13
      rw [he2]
      have hle := hmono HLE2.out
      rw [hlen, ← HM9.out] at hs13 ⊢
      have HPL13 := hid (place_any hs13 (by have := HKL.out; omega) c13 u.name)
      rw [if_pos hm2] at HPL13
      obtain ⟨i2, hi2⟩ : ∃ i, i = ks2.idxOf (ky u.name) := ⟨_, rfl⟩
      rw [← hi2] at hle HPL13
      rw [← HI0.out] at hle
      have FIN13 : Hid (Below w.heap.size w w13) := (HBX.out w13 (B3.out.trans ((B312.out.trans (hb13.mono B312.out.size)).mono B3.out.size))).2.2
      have hk0 : (0 : Int) ≤ (i2 : Int) := by omega
      have hk1 : (i2 : Int) ≤ (i0 : Int) := by omega
      clear he2 hlen hm hm2 hmono hle hk13 hs13 hb13 y0 y1 y2 y3 hl8 HOR8 HR12 B312 hi2
      go_wp2_with fail
      refine HPL13.out.mono ?_
      rintro e w14 ⟨rfl, hb14⟩
      have FIN14 := hid (FIN13.out.trans (hb14.mono FIN13.out.size))
      clear hb14 HPL13
      go_wp2
      go_ret
      exact ⟨by first | rfl | simp [hk1], FIN14.out⟩
end Go.Proofs.Yteccpjijlkjneaa
